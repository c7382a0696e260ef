/- Layer 12: Swap. -/
import Derived.Test.YtllkeifldfmbkaaDueB
import Derived.RegionTactic
import Derived.BigRegion
import Derived.Laws.OwnMore
namespace Go.Proofs.Ytllkeifldfmbkaa
open Go.RowKit

set_option maxRecDepth 100000 in
set_option maxHeartbeats 4000000 in
theorem hswap_raw (g cap n : Nat) (x y : Nd) (i j : Nat) (p q : Value) (w : World) (hij : i ≠ j) (hxy : x.b ≠ y.b) (hgx : g ≠ x.b) (hgy : g ≠ y.b) (hi : i < n) (hj : j < n)
    (ci : w.cell? ⟨g, i, none⟩ = some (.pointer (some ⟨x.b, 0, none⟩))) (cj : w.cell? ⟨g, j, none⟩ = some (.pointer (some ⟨y.b, 0, none⟩))) (fi : w.frozen? ⟨g, i, none⟩ = false) (fj : w.frozen? ⟨g, j, none⟩ = false)
    (cx : w.cell? ⟨x.b, 3, none⟩ = some p) (cy : w.cell? ⟨y.b, 3, none⟩ = some q) (fx : w.frozen? ⟨x.b, 3, none⟩ = false) (fy : w.frozen? ⟨y.b, 3, none⟩ = false) :
    Calls Try.prog 117 #[.slice (some ⟨g, 0, none⟩) n cap, .int .i64 (i : Int), .int .i64 (j : Int)] w fun e w' => e = .returned (.tuple #[]) ∧ ∃ m, w' = ((((w.setCell ⟨g, i, none⟩ (ptr y)).setCell ⟨g, j, none⟩ (ptr x)).setCell ⟨y.b, 3, none⟩ (.int .i64 (i : Int))).setCell ⟨x.b, 3, none⟩ (.int .i64 (j : Int))).drewN m := by
  have hi0 : (0 : Int) ≤ (i : Int) := by omega
  have hj0 : (0 : Int) ≤ (j : Int) := by omega
  have hi1 : (i : Int) < (n : Int) := by omega
  have hj1 : (j : Int) < (n : Int) := by omega
  obtain ⟨w2, hw2⟩ : ∃ w2, w2 = (w.setCell ⟨g, i, none⟩ (ptr y)).setCell ⟨g, j, none⟩ (ptr x) := ⟨_, rfl⟩
  have di : w2.cell? ⟨g, i, none⟩ = some (.pointer (some ⟨y.b, 0, none⟩)) := by
    rw [hw2, World.cell?_setCell_other _ _ _ _ (by simp only [ne_eq, Addr.mk.injEq, true_and, and_true]; exact Ne.symm hij)]
    exact World.cell?_setCell_same _ _ _ ci
  have dj : w2.cell? ⟨g, j, none⟩ = some (.pointer (some ⟨x.b, 0, none⟩)) := by
    rw [hw2]
    exact World.cell?_setCell_same _ _ _ ((World.cell?_setCell_other _ _ _ _ (by simp only [ne_eq, Addr.mk.injEq, true_and, and_true]; exact hij)).trans cj)
  have dx : w2.cell? ⟨x.b, 3, none⟩ = some p := by
    rw [hw2, World.cell?_setCell_other _ _ _ _ (by simp), World.cell?_setCell_other _ _ _ _ (by simp)]; exact cx
  have dy : w2.cell? ⟨y.b, 3, none⟩ = some q := by
    rw [hw2, World.cell?_setCell_other _ _ _ _ (by simp), World.cell?_setCell_other _ _ _ _ (by simp)]; exact cy
  have ex : w2.frozen? ⟨x.b, 3, none⟩ = false := by rw [hw2, World.frozen?_setCell, World.frozen?_setCell]; exact fx
  have ey : w2.frozen? ⟨y.b, 3, none⟩ = false := by rw [hw2, World.frozen?_setCell, World.frozen?_setCell]; exact fy
  obtain ⟨xb, xk, xa, xs⟩ := x
  obtain ⟨yb, yk, ya, ys⟩ := y
  unfold ptr at hw2
  simp only [] at *
  replace hw2 := hid hw2
  have H2 : Hid (w2.cell? ⟨g, i, none⟩ = some (.pointer (some ⟨yb, 0, none⟩)) ∧ w2.cell? ⟨g, j, none⟩ = some (.pointer (some ⟨xb, 0, none⟩)) ∧ w2.cell? ⟨xb, 3, none⟩ = some p ∧ w2.cell? ⟨yb, 3, none⟩ = some q ∧ w2.frozen? ⟨xb, 3, none⟩ = false ∧ w2.frozen? ⟨yb, 3, none⟩ = false) := hid ⟨di, dj, dx, dy, ex, ey⟩
  clear di dj dx dy ex ey
  go_enter Try.func117, Try.ntmps117
  go_wp2_with fail
  go_region
  rw [← hw2.out]
  clear ci cj fi fj cx cy fx fy
  obtain ⟨di, dj, dx, dy, ex, ey⟩ := H2.out
  clear H2
  go_wp2_with fail
  go_region
  go_wp2
  go_returns
  exact ⟨rfl, 2, by rw [hw2.out]; rfl⟩

set_option maxRecDepth 100000 in
set_option maxHeartbeats 4000000 in
theorem hswap_one (g cap n : Nat) (x : Nd) (i : Nat) (p : Value) (w : World) (hi : i < n)
    (ci : w.cell? ⟨g, i, none⟩ = some (.pointer (some ⟨x.b, 0, none⟩))) (fi : w.frozen? ⟨g, i, none⟩ = false) (cx : w.cell? ⟨x.b, 3, none⟩ = some p) (fx : w.frozen? ⟨x.b, 3, none⟩ = false) (hgx : g ≠ x.b) :
    Calls Try.prog 117 #[.slice (some ⟨g, 0, none⟩) n cap, .int .i64 (i : Int), .int .i64 (i : Int)] w fun e w' => e = .returned (.tuple #[]) ∧ ∃ m, w' = ((((w.setCell ⟨g, i, none⟩ (ptr x)).setCell ⟨g, i, none⟩ (ptr x)).setCell ⟨x.b, 3, none⟩ (.int .i64 (i : Int))).setCell ⟨x.b, 3, none⟩ (.int .i64 (i : Int))).drewN m := by
  have hi0 : (0 : Int) ≤ (i : Int) := by omega
  have hi1 : (i : Int) < (n : Int) := by omega
  obtain ⟨w2, hw2⟩ : ∃ w2, w2 = (w.setCell ⟨g, i, none⟩ (ptr x)).setCell ⟨g, i, none⟩ (ptr x) := ⟨_, rfl⟩
  have di : w2.cell? ⟨g, i, none⟩ = some (.pointer (some ⟨x.b, 0, none⟩)) := by
    rw [hw2]
    exact World.cell?_setCell_same _ _ _ (World.cell?_setCell_same _ _ _ ci)
  have dx : w2.cell? ⟨x.b, 3, none⟩ = some p := by
    rw [hw2, World.cell?_setCell_other _ _ _ _ (by simp only [ne_eq, Addr.mk.injEq]; exact fun e => hgx e.1), World.cell?_setCell_other _ _ _ _ (by simp only [ne_eq, Addr.mk.injEq]; exact fun e => hgx e.1)]; exact cx
  have ex : w2.frozen? ⟨x.b, 3, none⟩ = false := by rw [hw2, World.frozen?_setCell, World.frozen?_setCell]; exact fx
  obtain ⟨xb, xk, xa, xs⟩ := x
  unfold ptr at hw2
  simp only [] at *
  replace hw2 := hid hw2
  have H2 : Hid (w2.cell? ⟨g, i, none⟩ = some (.pointer (some ⟨xb, 0, none⟩)) ∧ w2.cell? ⟨xb, 3, none⟩ = some p ∧ w2.frozen? ⟨xb, 3, none⟩ = false) := hid ⟨di, dx, ex⟩
  clear di dx ex
  go_enter Try.func117, Try.ntmps117
  go_wp2_with fail
  go_region
  rw [← hw2.out]
  clear ci fi cx fx
  obtain ⟨di, dx, ex⟩ := H2.out
  clear H2
  go_wp2_with fail
  go_region
  go_wp2
  go_returns
  exact ⟨rfl, 2, by rw [hw2.out]; rfl⟩

theorem HeapM.inj {w : World} {av : Value} {hs : List Nd} (h : HeapM w av hs) {i j : Nat} {x y : Nd} (hx : hs[i]? = some x) (hy : hs[j]? = some y) (e : x.b = y.b) : i = j := by
  have hl : i < (hs.map (·.b)).length := by rw [List.length_map]; exact (List.getElem?_eq_some_iff.1 hx).1
  exact (List.getElem?_inj hl h.nodup).1 (by rw [List.getElem?_map, List.getElem?_map, hx, hy]; simp [e])
theorem HeapM.far {w : World} {av : Value} {hs : List Nd} (h : HeapM w av hs) {i : Nat} {x : Nd} (hx : hs[i]? = some x) : av.ownBlock ≠ some x.b := own_blk_ne h.arr (h.node i x hx) (by decide)
theorem HeapM.chg {w w' : World} {av : Value} {hs : List Nd} {F : Nat → Prop} (h : HeapM w av hs) (k : Chg F w w') (hF : ∀ b, av.ownBlock = some b ∨ b ∈ hs.map (·.b) → ¬ F b) : HeapM w' av hs :=
  ⟨own_chg h.arr k (fun g hg => hF g (.inl hg)), fun i x hx => (h.node i x hx).chg k (hF _ (.inr (List.mem_map.2 ⟨x, List.mem_of_getElem? hx, rfl⟩))), h.nodup⟩
theorem HeapM.next {w w' : World} {av : Value} {hs : List Nd} (h : HeapM w av hs) (k : Below w.heap.size w w') : HeapM w' av hs := h.chg (Chg.of_below (F := fun _ => False) k) (fun _ _ => id)
/-- What Swap leaves. -/
theorem HeapM.swap {w w1 w2 w3 w4 w5 : World} {g cap : Nat} {hs : List Nd} {i j : Nat} {x y : Nd} (h : HeapM w (.slice (some ⟨g, 0, none⟩) hs.length cap) hs) (hx : hs[i]? = some x) (hy : hs[j]? = some y) (m : Nat)
    (e1 : w1 = w.setCell ⟨g, i, none⟩ (ptr y)) (e2 : w2 = w1.setCell ⟨g, j, none⟩ (ptr x)) (e3 : w3 = w2.setCell ⟨y.b, 3, none⟩ (.int .i64 (i : Int))) (e4 : w4 = w3.setCell ⟨x.b, 3, none⟩ (.int .i64 (j : Int))) (e5 : w5 = w4.drewN m) :
    HeapM w5 (.slice (some ⟨g, 0, none⟩) hs.length cap) (swapL hs i j) ∧ Chg (fun b => b = g ∨ b ∈ hs.map (·.b)) w w5 := by
  have hgx : x.b ≠ g := fun e => h.far hx (by rw [e]; rfl)
  have hgy : y.b ≠ g := fun e => h.far hy (by rw [e]; rfl)
  have hmx : x.b ∈ hs.map (·.b) := List.mem_map.2 ⟨x, List.mem_of_getElem? hx, rfl⟩
  have hmy : y.b ∈ hs.map (·.b) := List.mem_map.2 ⟨y, List.mem_of_getElem? hy, rfl⟩
  have far2 : ∀ (b : Nat) (cs : List Value), b ≠ g → Blk w b 101 cs → Blk w2 b 101 cs := by
    intro b cs hz hb
    rw [e2, e1]
    exact (hb.far (p := ⟨g, i, none⟩) hz _).far (p := ⟨g, j, none⟩) hz _
  have far3 : ∀ (b : Nat) (cs : List Value), b ≠ y.b → Blk w2 b 101 cs → Blk w3 b 101 cs := by
    intro b cs hz hb
    rw [e3]; exact hb.far (p := ⟨y.b, 3, none⟩) hz _
  have far4 : ∀ (b : Nat) (cs : List Value), b ≠ x.b → Blk w3 b 101 cs → Blk w4 b 101 cs := by
    intro b cs hz hb
    rw [e4]; exact hb.far (p := ⟨x.b, 3, none⟩) hz _
  have set3 : ∀ (cs : List Value), Blk w2 y.b 101 cs → Blk w3 y.b 101 (cs.set 3 (.int .i64 (i : Int))) := by
    intro cs hb
    rw [e3]; exact hb.set 3 _
  have set4 : ∀ (cs : List Value), Blk w3 x.b 101 cs → Blk w4 x.b 101 (cs.set 3 (.int .i64 (j : Int))) := by
    intro cs hb
    rw [e4]; exact hb.set 3 _
  have drw : ∀ (b : Nat) (cs : List Value), Blk w4 b 101 cs → Blk w5 b 101 cs := by
    intro b cs hb
    rw [e5]; exact hb.drewN m
  have arr : w5.ownsRow 0 99 1 (.slice (some ⟨g, 0, none⟩) hs.length cap) hs.length (((hs.map ptr).set i (ptr y)).set j (ptr x)) := by
    obtain ⟨h1, _⟩ := h.arr.stored i (ptr y)
    rw [← e1] at h1
    obtain ⟨h2, _⟩ := h1.stored j (ptr x)
    rw [← e2] at h2
    have h3 := ownsRow_setCell_other h2 (a := ⟨y.b, 3, none⟩) (by simp [Value.ownBlock]; exact Ne.symm hgy) (.int .i64 (i : Int))
    rw [← e3] at h3
    have h4 := ownsRow_setCell_other h3 (a := ⟨x.b, 3, none⟩) (by simp [Value.ownBlock]; exact Ne.symm hgx) (.int .i64 (j : Int))
    rw [← e4] at h4
    rw [e5]
    exact own_chg h4 ((Chg.refl (fun _ => False) w4).drewN m) (fun _ _ => id)
  have hch : Chg (fun b => b = g ∨ b ∈ hs.map (·.b)) w w5 := by
    have c1 := Chg.setCell (F := fun b => b = g ∨ b ∈ hs.map (·.b)) w (p := ⟨g, i, none⟩) (.inl rfl) (ptr y)
    rw [← e1] at c1
    have c2 := c1.set (p := ⟨g, j, none⟩) (.inl rfl) (ptr x)
    rw [← e2] at c2
    have c3 := c2.set (p := ⟨y.b, 3, none⟩) (.inr hmy) (.int .i64 (i : Int))
    rw [← e3] at c3
    have c4 := c3.set (p := ⟨x.b, 3, none⟩) (.inr hmx) (.int .i64 (j : Int))
    rw [← e4] at c4
    rw [e5]; exact c4.drewN m
  clear e1 e2 e3 e4 e5
  refine ⟨⟨?_, fun k z hz => ?_, (((swapL_perm hs i j).map (·.b)).nodup_iff).2 h.nodup⟩, hch⟩
  · have e : (swapL hs i j).map ptr = ((hs.map ptr).set i (ptr y)).set j (ptr x) := by
      unfold swapL; rw [hx, hy]; simp only [List.map_set]
    rw [e, swapL_len]
    exact arr
  · rw [swapL_get hx hy] at hz
    by_cases hkj : k = j
    · rw [if_pos hkj] at hz
      injection hz with hz
      subst hz; subst hkj
      have h1 := far2 _ _ hgx (h.node i x hx)
      by_cases hxy : x.b = y.b
      · rw [hxy] at h1
        have h2 := set3 _ h1
        rw [← hxy] at h2
        exact drw _ _ (set4 _ h2)
      · exact drw _ _ (set4 _ (far3 _ _ hxy h1))
    · rw [if_neg hkj] at hz
      by_cases hki : k = i
      · rw [if_pos hki] at hz
        injection hz with hz
        subst hz; subst hki
        have hyx : y.b ≠ x.b := fun e => hkj (h.inj hx hy e.symm)
        exact drw _ _ (far4 _ _ hyx (set3 _ (far2 _ _ hgy (h.node j y hy))))
      · rw [if_neg hki] at hz
        have h1 : z.b ≠ x.b := fun e => hki (h.inj hz hx e)
        have h2 : z.b ≠ y.b := fun e => hkj (h.inj hz hy e)
        have h3 : z.b ≠ g := fun e => h.far hz (by rw [e]; rfl)
        exact drw _ _ (far4 _ _ h1 (far3 _ _ h2 (far2 _ _ h3 (h.node k z hz))))

theorem hswap_any (av : Value) (hs : List Nd) (i j : Nat) (w : World) (h : HeapM w av hs) (hi : i < hs.length) (hj : j < hs.length) :
    Calls Try.prog 117 #[av, .int .i64 (i : Int), .int .i64 (j : Int)] w fun e w' => e = .returned (.tuple #[]) ∧ HeapM w' av (swapL hs i j) ∧ Chg (fun b => av.ownBlock = some b ∨ b ∈ hs.map (·.b)) w w' := by
  obtain ⟨g, cap, rfl, hc1, hc2, hcell⟩ := h.form hi
  obtain ⟨x, hx⟩ : ∃ x, hs[i]? = some x := ⟨_, List.getElem?_eq_getElem hi⟩
  obtain ⟨y, hy⟩ : ∃ y, hs[j]? = some y := ⟨_, List.getElem?_eq_getElem hj⟩
  have hgx : g ≠ x.b := fun e => h.far hx (by rw [e]; rfl)
  have hgy : g ≠ y.b := fun e => h.far hy (by rw [e]; rfl)
  have bx := h.node i x hx
  have bY := h.node j y hy
  have fr := fun k => h.arr.frozenAt k
  by_cases e : i = j
  · subst e
    rw [hx] at hy
    injection hy with hy
    subst hy
    refine (hswap_one g cap hs.length x i _ w hi (hcell i x hx) (fr i) (bx.cell 3) (bx.free 3) hgx).mono ?_
    rintro e w' ⟨rfl, m, rfl⟩
    obtain ⟨h1, h2⟩ := h.swap hx hx m rfl rfl rfl rfl rfl
    exact ⟨rfl, h1, h2.mono (fun b hb => by rcases hb with rfl | hb; exact .inl rfl; exact .inr hb)⟩
  · refine (hswap_raw g cap hs.length x y i j _ _ w e (fun e' => e (h.inj hx hy e')) hgx hgy hi hj (hcell i x hx) (hcell j y hy) (fr i) (fr j) (bx.cell 3) (bY.cell 3) (bx.free 3) (bY.free 3)).mono ?_
    rintro e w' ⟨rfl, m, rfl⟩
    obtain ⟨h1, h2⟩ := h.swap hx hy m rfl rfl rfl rfl rfl
    exact ⟨rfl, h1, h2.mono (fun b hb => by rcases hb with rfl | hb; exact .inl rfl; exact .inr hb)⟩
end Go.Proofs.Ytllkeifldfmbkaa
