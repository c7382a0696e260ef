/- Layers 6, 7: Large, Same, Txns; layer 14: large, the law's own little functions. -/
import Derived.Test.YtllkeifldfmbkaaOrdC
import Derived.Test.YtllkeifldfmbkaaEq
namespace Go.Proofs.Ytllkeifldfmbkaa
open Go.RowKit

/-- The slice value v reads as the transactions l, each with its writes' slice. -/
def Txs (w : World) (S : Nat → Prop) (v : Value) (l : List (Tx × Value)) : Prop :=
  ∃ A c, v = .slice A l.length c ∧ l.length ≤ c ∧ c ≤ maxLen ∧ Rd w S 6 A l.length (l.flatMap (fun x => txCells x.1 x.2)) ∧ ∀ x ∈ l, Ws w S x.2 x.1.ws
theorem Txs.chg {w w' : World} {S F : Nat → Prop} {v : Value} {l : List (Tx × Value)} (h : Txs w S v l) (k : Chg F w w') (hS : ∀ b, S b → ¬ F b) : Txs w' S v l := by
  obtain ⟨A, c, e, h1, h2, h3, h4⟩ := h
  exact ⟨A, c, e, h1, h2, h3.chg k hS, fun x hx => (h4 x hx).chg k hS⟩
theorem Txs.below {w w' : World} {S : Nat → Prop} {v : Value} {l : List (Tx × Value)} (h : Txs w S v l) (k : Below w.heap.size w w') : Txs w' S v l :=
  h.chg (Chg.of_below (F := fun _ => False) k) (fun _ _ => id)
theorem Txs.more {w : World} {S S' : Nat → Prop} {v : Value} {l : List (Tx × Value)} (h : Txs w S v l) (hS : ∀ b, b < w.heap.size → S b → S' b) : Txs w S' v l := by
  obtain ⟨A, c, e, h1, h2, h3, h4⟩ := h
  exact ⟨A, c, e, h1, h2, h3.more hS, fun x hx => (h4 x hx).more hS⟩
/-- The six cells of a transaction. -/
theorem Rd.tx {w : World} {S : Nat → Prop} {A : Option Addr} {l : List (Tx × Value)} (h : Rd w S 6 A l.length (l.flatMap (fun x => txCells x.1 x.2))) {k : Nat} {t : Tx} {v : Value} (hk : l[k]? = some (t, v)) :
    ∃ b o, A = some ⟨b, o, none⟩ ∧ b < w.heap.size ∧ S b ∧ ∀ i, i < 6 → w.cell? ⟨b, o + (k * 6 + i), none⟩ = (txCells t v)[i]? := by
  have hlt : k < l.length := (List.getElem?_eq_some_iff.1 hk).1
  obtain ⟨b, o, e, hb, hs, hc⟩ := h.at_ hlt
  refine ⟨b, o, e, hb, hs, fun i hi => ?_⟩
  have := hc i hi
  rw [flat_get _ 6 (fun x => rfl) l k i hi, hk] at this
  exact this

def sameTx (a b : Tx) : Bool := a.o == b.o && (a.s == b.s && ((a.d0 == b.d0 && (a.d1 == b.d1 && a.d2 == b.d2)) && (a.ws.length == b.ws.length && (a.ws.zip b.ws).all fun p => eqWr p.1 p.2)))
theorem eqWr_self (x : Wr) : eqWr x x = true := by simp [eqWr]
theorem sameTx_self (a : Tx) : sameTx a a = true := by
  simp only [sameTx, beq_self_eq_true, Bool.true_and, List.all_eq_true]
  intro p hp
  have : p.1 = p.2 := by
    obtain ⟨i, hi, rfl⟩ := List.mem_iff_getElem.1 hp
    simp
  rw [this]; exact eqWr_self _
theorem zipAll_step {a b : List Wr} {k : Nat} {x y : Wr} (hx : a[k]? = some x) (hy : b[k]? = some y) (h : ((a.zip b).take k).all (fun p => eqWr p.1 p.2) = true) :
    ((a.zip b).take (k + 1)).all (fun p => eqWr p.1 p.2) = eqWr x y := by
  have : (a.zip b)[k]? = some (x, y) := by rw [List.getElem?_zip_eq_some]; exact ⟨hx, hy⟩
  rw [List.take_add_one, this, List.all_append, h]; simp
theorem zipAll_no {a b : List Wr} {k : Nat} {x y : Wr} (hx : a[k]? = some x) (hy : b[k]? = some y) (h : eqWr x y = false) : (a.zip b).all (fun p => eqWr p.1 p.2) = false := by
  have : (a.zip b)[k]? = some (x, y) := by rw [List.getElem?_zip_eq_some]; exact ⟨hx, hy⟩
  rw [List.all_eq_false]
  exact ⟨(x, y), List.mem_of_getElem? this, by simp [h]⟩
theorem zipAll_yes {a b : List Wr} {k : Nat} (h : ((a.zip b).take k).all (fun p => eqWr p.1 p.2) = true) (hk : a.length ≤ k) : (a.zip b).all (fun p => eqWr p.1 p.2) = true := by
  rwa [List.take_of_length_le (by simp; omega)] at h

set_option maxHeartbeats 400000 in
theorem mk_any (n : Int) (w : World) (h0 : 0 ≤ n) (h1 : n ≤ 1000) :
    Calls Try.prog 30 #[.int .i64 n] w fun e w' => e = .returned (txVal ⟨1, n, 0, n - 1, 0, []⟩ (.slice none 0 0)) ∧ Below w.heap.size w w' := by
  go_enter Try.func30, Try.ntmps30
  go_wp2
  refine bodyPost_ret (v := txVal ⟨1, n, 0, n - 1, 0, []⟩ (.slice none 0 0)) (by simp [results, Try.results30, go_sem]) rfl ⟨rfl, by go_grown⟩

def LargeB (w : World) (e : Ending) (w' : World) : Prop := ∃ b : Bool, e = .returned (.bool b) ∧ Below w.heap.size w w'
set_option maxHeartbeats 800000 in
theorem large_any (S : Nat → Prop) (t : Tx) (v : Value) (w : World) (hw : Ws w S v t.ws) : Calls Try.prog 33 #[txVal t v] w (LargeB w) := by
  obtain ⟨A, c, rfl, hc, hm, hr⟩ := hw
  obtain ⟨o, s, d0, d1, d2, ws⟩ := t
  simp only [] at hc hr
  have hm1 := hm; unfold maxLen at hm1
  by_cases h40 : 40 < ws.length
  · go_enter Try.func33, Try.ntmps33
    go_wp2
    go_returns
    exact ⟨true, rfl, by go_grown⟩
  · replace hr := hid (hr.alloc (.cells #[.int .i64 o, .int .i64 s, .int .i64 d0, .int .i64 d1, .int .i64 d2, .slice A ws.length c] 34))
    go_enter Try.func33, Try.ntmps33
    go_wp2_with fail
    go_loopw [12] (fun i wr => ∃ k : Nat, k ≤ ws.length ∧ i = .int .i64 k ∧ Below (w.alloc (.cells #[.int .i64 o, .int .i64 s, .int .i64 d0, .int .i64 d1, .int .i64 d2, .slice A ws.length c] 34)).heap.size (w.alloc (.cells #[.int .i64 o, .int .i64 s, .int .i64 d0, .int .i64 d1, .int .i64 d2, .slice A ws.length c] 34)) wr) (fun i _ => ws.length - (intOf i).toNat)
    case atStart => exact ⟨0, Nat.zero_le _, rfl, Below.refl _ _⟩
    case round =>
      obtain ⟨k, hk, rfl, hb⟩ := hrel
      by_cases hlt : k < ws.length
      · obtain ⟨x, hx⟩ : ∃ x, ws[k]? = some x := ⟨_, List.getElem?_eq_getElem hlt⟩
        obtain ⟨b, o, rfl, hbl, hS, c0, c1, c2⟩ := ((hr.out).below hb).wr hx
        clear hx
        replace hb := hid hb
        go_wp2
        all_goals first
          | (go_roundw
             case rel => exact ⟨k + 1, by omega, by go_num, hb.out.alloc hb.out.size _⟩
             case measure => simp [intOf]; omega)
          | (go_returns; exact ⟨true, rfl, ((Below.refl _ _).alloc (Nat.le_refl _) _).next (hb.out.alloc hb.out.size _)⟩)
      · go_wp2
        go_returns
        exact ⟨false, rfl, ((Below.refl _ _).alloc (Nat.le_refl _) _).next hb⟩

set_option maxRecDepth 100000 in
set_option maxHeartbeats 2000000 in
theorem same_any (S1 S2 : Nat → Prop) (a b : Tx) (u v : Value) (w : World) (ha : Ws w S1 u a.ws) (hb : Ws w S2 v b.ws) :
    Calls Try.prog 12 #[txVal a u, txVal b v] w fun e w' => e = .returned (.bool (sameTx a b)) ∧ Below w.heap.size w w' := by
  obtain ⟨A, c, rfl, hc, hm, hr⟩ := ha
  obtain ⟨A', c', rfl, hc', hm', hr'⟩ := hb
  obtain ⟨o, s, d0, d1, d2, ws⟩ := a
  obtain ⟨o', s', d0', d1', d2', ws'⟩ := b
  simp only [] at hc hc' hr hr'
  have hm1 := hm; unfold maxLen at hm1
  have hm2 := hm'; unfold maxLen at hm2
  have hq := fun W => neq_clock d0 d1 d2 d0' d1' d2' W
  by_cases h1 : o = o'
  · subst h1
    by_cases h2 : s = s'
    · subst h2
      cases h3 : (d0 == d0' && (d1 == d1' && d2 == d2'))
      · have hfin : sameTx ⟨o, s, d0, d1, d2, ws⟩ ⟨o, s, d0', d1', d2', ws'⟩ = false := by simp only [sameTx, h3]; simp
        rw [hfin]
        rw [h3] at hq
        clear h3 hfin hr hr'
        go_enter Try.func12, Try.ntmps12
        go_wp2
        go_returns
        exact ⟨rfl, by go_grown⟩
      · rw [h3] at hq
        by_cases h4 : ws.length = ws'.length
        · have hfin : sameTx ⟨o, s, d0, d1, d2, ws⟩ ⟨o, s, d0', d1', d2', ws'⟩ = (ws.zip ws').all (fun p => eqWr p.1 p.2) := by simp only [sameTx, h3, h4]; simp
          rw [hfin]
          clear h3 hfin
          obtain ⟨B, hB⟩ : ∃ B : Bool, (ws.zip ws').all (fun p => eqWr p.1 p.2) = B := ⟨_, rfl⟩
          rw [hB]
          replace hB := hid hB
          have h5 : ((ws.length : Int) == (ws'.length : Int)) = true := by simp; omega
          have h6 : ((ws.length : Int) != (ws'.length : Int)) = false := by simp; omega
          replace h4 := hid h4
          replace hr := hid hr
          replace hr' := hid hr'
          go_enter Try.func12, Try.ntmps12
          go_wp2_with fail
          obtain ⟨W0, hW0⟩ : ∃ W0, W0 = (w.alloc (.cells #[.int .i64 o, .int .i64 s, .int .i64 d0, .int .i64 d1, .int .i64 d2, .slice A ws.length c] 34)).alloc (.cells #[.int .i64 o, .int .i64 s, .int .i64 d0', .int .i64 d1', .int .i64 d2', .slice A' ws'.length c'] 34) := ⟨_, rfl⟩
          rw [← hW0]
          have hbW : Below w.heap.size w W0 := by rw [hW0]; go_grown
          have b1 : Blk W0 w.heap.size 34 [.int .i64 o, .int .i64 s, .int .i64 d0, .int .i64 d1, .int .i64 d2, .slice A ws.length c] := by rw [hW0]; exact (Blk.new w _ _).alloc _
          have b2 : Blk W0 (w.heap.size + 1) 34 [.int .i64 o, .int .i64 s, .int .i64 d0', .int .i64 d1', .int .i64 d2', .slice A' ws'.length c'] := by
            rw [hW0]
            have h := Blk.new (w.alloc (.cells #[.int .i64 o, .int .i64 s, .int .i64 d0, .int .i64 d1, .int .i64 d2, .slice A ws.length c] 34)) 34 [.int .i64 o, .int .i64 s, .int .i64 d0', .int .i64 d1', .int .i64 d2', .slice A' ws'.length c']
            rw [World.size_alloc] at h; exact h
          clear hW0
          replace b1 := hid b1
          replace b2 := hid b2
          go_loopw [5] (fun i wr => ∃ k : Nat, k ≤ ws.length ∧ i = .int .i64 k ∧ ((ws.zip ws').take k).all (fun p => eqWr p.1 p.2) = true ∧ Below W0.heap.size W0 wr) (fun i _ => ws.length - (intOf i).toNat)
          case atStart => exact ⟨0, Nat.zero_le _, rfl, by simp, Below.refl _ _⟩
          case round =>
            obtain ⟨k, hk, rfl, hno, hb⟩ := hrel
            have e1 : wr.cell? ⟨w.heap.size, 5, none⟩ = some (.slice A ws.length c) := (b1.out.next hb).cell 5
            have e2 : wr.cell? ⟨w.heap.size + 1, 5, none⟩ = some (.slice A' ws'.length c') := (b2.out.next hb).cell 5
            replace hno := hid hno
            replace hb := hid hb
            by_cases hlt : k < ws.length
            · obtain ⟨x, hx⟩ : ∃ x, ws[k]? = some x := ⟨_, List.getElem?_eq_getElem hlt⟩
              have hlt' : k < ws'.length := by rw [← h4.out]; exact hlt
              obtain ⟨y, hy⟩ : ∃ y, ws'[k]? = some y := ⟨_, List.getElem?_eq_getElem hlt'⟩
              obtain ⟨p, q, rfl, _, _, x0, x1, x2⟩ := (hr.out.below (hbW.next hb.out)).wr hx
              obtain ⟨p', q', rfl, _, _, y0, y1, y2⟩ := (hr'.out.below (hbW.next hb.out)).wr hy
              have hn := fun W => neq_wr x y W
              have hi0 : (0 : Int) ≤ (k : Int) := by omega
              have hi1 : (k : Int) < (ws.length : Int) := by omega
              have hi2 : (k : Int) < (ws'.length : Int) := by omega
              cases hxy : eqWr x y
              · have hfin := zipAll_no hx hy hxy
                rw [hxy] at hn
                replace hfin := hid hfin
                clear hx hy hxy
                go_wp2_with fail
                go_quiet (fail)
                go_wp2
                go_returns
                exact ⟨by rw [← hB.out, hfin.out]; rfl, hbW.next (hb.out.drewN _)⟩
              · have hst := zipAll_step hx hy hno.out
                rw [hxy] at hn hst
                replace hst := hid hst
                clear hx hy hxy
                go_wp2_with fail
                go_quiet (fail)
                go_wp2_with fail
                go_roundw
                case rel => exact ⟨k + 1, by omega, by go_num, hst.out, hb.out.drewN _⟩
                case measure => simp [intOf]; omega
            · have hfin := zipAll_yes hno.out (by omega)
              replace hfin := hid hfin
              go_wp2
              go_returns
              exact ⟨by rw [← hB.out, hfin.out]; rfl, hbW.next hb.out⟩
        · have hfin : sameTx ⟨o, s, d0, d1, d2, ws⟩ ⟨o, s, d0', d1', d2', ws'⟩ = false := by simp only [sameTx]; simp [h4]
          rw [hfin]
          have h5 : ((ws.length : Int) == (ws'.length : Int)) = false := by simp; omega
          have h6 : ((ws.length : Int) != (ws'.length : Int)) = true := by simp; omega
          clear h3 hfin hr hr' h4
          go_enter Try.func12, Try.ntmps12
          go_wp2
          go_returns
          exact ⟨rfl, by go_grown⟩
    · have hfin : sameTx ⟨o, s, d0, d1, d2, ws⟩ ⟨o, s', d0', d1', d2', ws'⟩ = false := by simp [sameTx, h2]
      rw [hfin]
      have h5 : (s != s') = true := by simpa using h2
      clear hfin hr hr' h2 hq
      go_enter Try.func12, Try.ntmps12
      go_wp2
      go_returns
      exact ⟨rfl, by go_grown⟩
  · have hfin : sameTx ⟨o, s, d0, d1, d2, ws⟩ ⟨o', s', d0', d1', d2', ws'⟩ = false := by simp [sameTx, h1]
    rw [hfin]
    have h5 : (o != o') = true := by simpa using h1
    clear hfin hr hr' h1 hq
    go_enter Try.func12, Try.ntmps12
    go_wp2
    go_returns
    exact ⟨rfl, by go_grown⟩

def sameTxs (a b : List (Tx × Value)) : Bool := a.length == b.length && ((a.zip b).all fun p => sameTx p.1.1 p.2.1)
theorem sameTxs_of {a b : List (Tx × Value)} (h : a.map (·.1) = b.map (·.1)) : sameTxs a b = true := by
  have hl : a.length = b.length := by have := congrArg List.length h; simpa using this
  simp only [sameTxs, hl, beq_self_eq_true, Bool.true_and, List.all_eq_true]
  intro p hp
  obtain ⟨i, hi, rfl⟩ := List.mem_iff_getElem.1 hp
  simp only [List.length_zip] at hi
  have h1 := congrArg (fun l => l[i]?) h
  simp only [List.getElem?_map, List.getElem?_eq_getElem (show i < a.length by omega), List.getElem?_eq_getElem (show i < b.length by omega), Option.map_some, Option.some.injEq] at h1
  simp only [List.getElem_zip]
  rw [h1]; exact sameTx_self _
theorem zipT_step {a b : List (Tx × Value)} {k : Nat} {x y : Tx × Value} (hx : a[k]? = some x) (hy : b[k]? = some y) (h : ((a.zip b).take k).all (fun p => sameTx p.1.1 p.2.1) = true) :
    ((a.zip b).take (k + 1)).all (fun p => sameTx p.1.1 p.2.1) = sameTx x.1 y.1 := by
  have : (a.zip b)[k]? = some (x, y) := by rw [List.getElem?_zip_eq_some]; exact ⟨hx, hy⟩
  rw [List.take_add_one, this, List.all_append, h]; simp
theorem zipT_no {a b : List (Tx × Value)} {k : Nat} {x y : Tx × Value} (hx : a[k]? = some x) (hy : b[k]? = some y) (h : sameTx x.1 y.1 = false) : (a.zip b).all (fun p => sameTx p.1.1 p.2.1) = false := by
  have : (a.zip b)[k]? = some (x, y) := by rw [List.getElem?_zip_eq_some]; exact ⟨hx, hy⟩
  rw [List.all_eq_false]
  exact ⟨(x, y), List.mem_of_getElem? this, by simp [h]⟩
theorem zipT_yes {a b : List (Tx × Value)} {k : Nat} (h : ((a.zip b).take k).all (fun p => sameTx p.1.1 p.2.1) = true) (hk : a.length ≤ k) : (a.zip b).all (fun p => sameTx p.1.1 p.2.1) = true := by
  rwa [List.take_of_length_le (by simp; omega)] at h

set_option maxRecDepth 100000 in
set_option maxHeartbeats 2000000 in
theorem txns_any (S1 S2 : Nat → Prop) (a b : List (Tx × Value)) (u v : Value) (w : World) (ha : Txs w S1 u a) (hb : Txs w S2 v b) :
    Calls Try.prog 15 #[u, v] w fun e w' => e = .returned (.bool (sameTxs a b)) ∧ Below w.heap.size w w' := by
  obtain ⟨A, c, rfl, hc, hm, hr, hs⟩ := ha
  obtain ⟨A', c', rfl, hc', hm', hr', hs'⟩ := hb
  have hm1 := hm; unfold maxLen at hm1
  have hm2 := hm'; unfold maxLen at hm2
  by_cases h4 : a.length = b.length
  · obtain ⟨B, hB⟩ : ∃ B : Bool, sameTxs a b = B := ⟨_, rfl⟩
    rw [hB]
    have hB' : (a.zip b).all (fun p => sameTx p.1.1 p.2.1) = B := by rw [← hB, sameTxs, h4]; simp
    replace hB := hid hB'
    clear hB'
    have h5 : ((a.length : Int) == (b.length : Int)) = true := by simp; omega
    have h6 : ((a.length : Int) != (b.length : Int)) = false := by simp; omega
    replace h4 := hid h4
    replace hr := hid hr
    replace hr' := hid hr'
    replace hs := hid hs
    replace hs' := hid hs'
    go_enter Try.func15, Try.ntmps15
    go_wp2_with fail
    go_loopw [5] (fun i wr => ∃ k : Nat, k ≤ a.length ∧ i = .int .i64 k ∧ ((a.zip b).take k).all (fun p => sameTx p.1.1 p.2.1) = true ∧ Below w.heap.size w wr) (fun i _ => a.length - (intOf i).toNat)
    case atStart => exact ⟨0, Nat.zero_le _, rfl, by simp, Below.refl _ _⟩
    case round =>
      obtain ⟨k, hk, rfl, hno, hb⟩ := hrel
      replace hno := hid hno
      by_cases hlt : k < a.length
      · obtain ⟨x, hx⟩ : ∃ x, a[k]? = some x := ⟨_, List.getElem?_eq_getElem hlt⟩
        have hlt' : k < b.length := by rw [← h4.out]; exact hlt
        obtain ⟨y, hy⟩ : ∃ y, b[k]? = some y := ⟨_, List.getElem?_eq_getElem hlt'⟩
        obtain ⟨tx, vx⟩ := x
        obtain ⟨ty, vy⟩ := y
        obtain ⟨p, q, rfl, hp1, _, xs⟩ := (hr.out.below hb).tx hx
        obtain ⟨p', q', rfl, hp2, _, ys⟩ := (hr'.out.below hb).tx hy
        have wx := (hs.out _ (List.mem_of_getElem? hx)).below hb
        have wy := (hs'.out _ (List.mem_of_getElem? hy)).below hb
        obtain ⟨xA, xc, hvx, _⟩ := id wx
        obtain ⟨yA, yc, hvy, _⟩ := id wy
        simp only [] at hvx hvy wx wy
        subst hvx hvy
        have HS : ∀ W, Below wr.heap.size wr W → Calls Try.prog 12 #[txVal tx (.slice xA tx.ws.length xc), txVal ty (.slice yA ty.ws.length yc)] W fun e w' => e = .returned (.bool (sameTx tx ty)) ∧ Below W.heap.size W w' :=
          fun W hW => same_any S1 S2 tx ty _ _ W (wx.below hW) (wy.below hW)
        have x0 : wr.cell? ⟨p, q + k * 6, none⟩ = some (.int .i64 tx.o) := xs 0 (by omega)
        have x1 : wr.cell? ⟨p, q + k * 6 + 1, none⟩ = some (.int .i64 tx.s) := xs 1 (by omega)
        have x2 : wr.cell? ⟨p, q + k * 6 + 2, none⟩ = some (.int .i64 tx.d0) := xs 2 (by omega)
        have x3 : wr.cell? ⟨p, q + k * 6 + 3, none⟩ = some (.int .i64 tx.d1) := xs 3 (by omega)
        have x4 : wr.cell? ⟨p, q + k * 6 + 4, none⟩ = some (.int .i64 tx.d2) := xs 4 (by omega)
        have x5 : wr.cell? ⟨p, q + k * 6 + 5, none⟩ = some (.slice xA tx.ws.length xc) := xs 5 (by omega)
        have y0 : wr.cell? ⟨p', q' + k * 6, none⟩ = some (.int .i64 ty.o) := ys 0 (by omega)
        have y1 : wr.cell? ⟨p', q' + k * 6 + 1, none⟩ = some (.int .i64 ty.s) := ys 1 (by omega)
        have y2 : wr.cell? ⟨p', q' + k * 6 + 2, none⟩ = some (.int .i64 ty.d0) := ys 2 (by omega)
        have y3 : wr.cell? ⟨p', q' + k * 6 + 3, none⟩ = some (.int .i64 ty.d1) := ys 3 (by omega)
        have y4 : wr.cell? ⟨p', q' + k * 6 + 4, none⟩ = some (.int .i64 ty.d2) := ys 4 (by omega)
        have y5 : wr.cell? ⟨p', q' + k * 6 + 5, none⟩ = some (.slice yA ty.ws.length yc) := ys 5 (by omega)
        have hi0 : (0 : Int) ≤ (k : Int) := by omega
        have hi1 : (k : Int) < (a.length : Int) := by omega
        have hi2 : (k : Int) < (b.length : Int) := by omega
        replace hb := hid hb
        cases hxy : sameTx tx ty
        · have hfin := zipT_no hx hy hxy
          replace hfin := hid hfin
          rw [hxy] at HS
          replace HS := hid HS
          clear hx hy hxy xs ys wx wy
          go_wp2_with fail
          go_region_held3 (fun w' => w'.cell? ⟨p, q + k * 6, none⟩ = some (.int .i64 tx.o) ∧ w'.cell? ⟨p, q + k * 6 + 1, none⟩ = some (.int .i64 tx.s) ∧ w'.cell? ⟨p, q + k * 6 + 2, none⟩ = some (.int .i64 tx.d0) ∧ w'.cell? ⟨p, q + k * 6 + 3, none⟩ = some (.int .i64 tx.d1) ∧ w'.cell? ⟨p, q + k * 6 + 4, none⟩ = some (.int .i64 tx.d2) ∧ w'.cell? ⟨p, q + k * 6 + 5, none⟩ = some (.slice xA tx.ws.length xc) ∧
              w'.cell? ⟨p', q' + k * 6, none⟩ = some (.int .i64 ty.o) ∧ w'.cell? ⟨p', q' + k * 6 + 1, none⟩ = some (.int .i64 ty.s) ∧ w'.cell? ⟨p', q' + k * 6 + 2, none⟩ = some (.int .i64 ty.d0) ∧ w'.cell? ⟨p', q' + k * 6 + 3, none⟩ = some (.int .i64 ty.d1) ∧ w'.cell? ⟨p', q' + k * 6 + 4, none⟩ = some (.int .i64 ty.d2) ∧ w'.cell? ⟨p', q' + k * 6 + 5, none⟩ = some (.slice yA ty.ws.length yc))
            (first
              | exact ⟨x0, x1, x2, x3, x4, x5, y0, y1, y2, y3, y4, y5⟩
              | exact ⟨(hb2.cell hp1).trans x0, (hb2.cell hp1).trans x1, (hb2.cell hp1).trans x2, (hb2.cell hp1).trans x3, (hb2.cell hp1).trans x4, (hb2.cell hp1).trans x5, (hb2.cell hp2).trans y0, (hb2.cell hp2).trans y1, (hb2.cell hp2).trans y2, (hb2.cell hp2).trans y3, (hb2.cell hp2).trans y4, (hb2.cell hp2).trans y5⟩)
            (first | (go_at_call 12; refine (HS.out _ ((Below.refl _ _).drew)).mono ?_; rintro e w2 ⟨rfl, hb2⟩))
          go_wp2
          go_returns
          exact ⟨by rw [← hB.out, hfin.out]; rfl, hb.out.drew.next hb2⟩
        · have hst := zipT_step hx hy hno.out
          simp only [] at hst
          rw [hxy] at HS hst
          replace HS := hid HS
          replace hst := hid hst
          clear hx hy hxy xs ys wx wy
          go_wp2_with fail
          go_region_held3 (fun w' => w'.cell? ⟨p, q + k * 6, none⟩ = some (.int .i64 tx.o) ∧ w'.cell? ⟨p, q + k * 6 + 1, none⟩ = some (.int .i64 tx.s) ∧ w'.cell? ⟨p, q + k * 6 + 2, none⟩ = some (.int .i64 tx.d0) ∧ w'.cell? ⟨p, q + k * 6 + 3, none⟩ = some (.int .i64 tx.d1) ∧ w'.cell? ⟨p, q + k * 6 + 4, none⟩ = some (.int .i64 tx.d2) ∧ w'.cell? ⟨p, q + k * 6 + 5, none⟩ = some (.slice xA tx.ws.length xc) ∧
              w'.cell? ⟨p', q' + k * 6, none⟩ = some (.int .i64 ty.o) ∧ w'.cell? ⟨p', q' + k * 6 + 1, none⟩ = some (.int .i64 ty.s) ∧ w'.cell? ⟨p', q' + k * 6 + 2, none⟩ = some (.int .i64 ty.d0) ∧ w'.cell? ⟨p', q' + k * 6 + 3, none⟩ = some (.int .i64 ty.d1) ∧ w'.cell? ⟨p', q' + k * 6 + 4, none⟩ = some (.int .i64 ty.d2) ∧ w'.cell? ⟨p', q' + k * 6 + 5, none⟩ = some (.slice yA ty.ws.length yc))
            (first
              | exact ⟨x0, x1, x2, x3, x4, x5, y0, y1, y2, y3, y4, y5⟩
              | exact ⟨(hb2.cell hp1).trans x0, (hb2.cell hp1).trans x1, (hb2.cell hp1).trans x2, (hb2.cell hp1).trans x3, (hb2.cell hp1).trans x4, (hb2.cell hp1).trans x5, (hb2.cell hp2).trans y0, (hb2.cell hp2).trans y1, (hb2.cell hp2).trans y2, (hb2.cell hp2).trans y3, (hb2.cell hp2).trans y4, (hb2.cell hp2).trans y5⟩)
            (first | (go_at_call 12; refine (HS.out _ ((Below.refl _ _).drew)).mono ?_; rintro e w2 ⟨rfl, hb2⟩))
          go_wp2_with fail
          go_roundw
          case rel => exact ⟨k + 1, by omega, by go_num, hst.out, hb.out.drew.next hb2⟩
          case measure => simp [intOf]; omega
      · have hfin := zipT_yes hno.out (by omega)
        replace hfin := hid hfin
        go_wp2
        go_returns
        exact ⟨by rw [← hB.out, hfin.out]; rfl, hb⟩
  · have hfin : sameTxs a b = false := by simp [sameTxs, h4]
    rw [hfin]
    have h5 : ((a.length : Int) == (b.length : Int)) = false := by simp; omega
    have h6 : ((a.length : Int) != (b.length : Int)) = true := by simp; omega
    clear hfin hr hr' hs hs' h4
    go_enter Try.func15, Try.ntmps15
    go_wp2
    go_returns
    exact ⟨rfl, Below.refl _ _⟩
end Go.Proofs.Ytllkeifldfmbkaa
