/- Layer 12: the heap's pointers sorted by ahead: the list. -/
import Derived.Test.YtllkeifldfmbkaaDueV
import Derived.Test.YtllkeifldfmbkaaDueShelf
namespace Go.Proofs.Ytllkeifldfmbkaa
open Go.RowKit Go.Shelf Go.Lib Go.Sort

theorem sorted_unique : ∀ (L M : List Nd), L.Pairwise Nd.lt → M.Pairwise Nd.le → M.Perm L → M = L
  | [], M, _, _, h => h.eq_nil
  | x :: r, M, hL, hM, h => by
    cases M with
    | nil => exact absurd h.length_eq (by simp)
    | cons y M' =>
      rw [List.pairwise_cons] at hL hM
      have hy : y ∈ x :: r := h.mem_iff.1 (by simp)
      have hx : x ∈ y :: M' := h.mem_iff.2 (by simp)
      have e : y = x := by
        rcases List.mem_cons.1 hy with e | hyr
        · exact e
        rcases List.mem_cons.1 hx with e | hxm
        · exact e.symm
        exfalso
        have h1 := hL.1 y hyr
        have h2 := hM.1 x hxm
        unfold Nd.lt at h1
        unfold Nd.le at h2
        omega
      subst e
      rw [sorted_unique r M' hL.2 hM.2 h.cons_inv]

set_option maxHeartbeats 1000000 in
/-- ahead, told with the very world behind it. -/
theorem ahead_lays (x y : Nd) (p q : Int) (w : World) (hx : Blk w x.b 101 (ndCells x p)) (hy : Blk w y.b 101 (ndCells y q)) :
    Calls Try.prog 44 #[.pointer (some ⟨x.b, 0, none⟩), .pointer (some ⟨y.b, 0, none⟩)] w fun e w' => e = .returned (.int .i64 (aheadZ x y)) ∧ ∃ n os, w' = grow (w.drewN n) os := by
  obtain ⟨r, hr⟩ : ∃ r, r = aheadZ x y := ⟨_, rfl⟩
  rw [← hr]
  have x1 : w.cell? ⟨x.b, 1, none⟩ = some (.int .i64 x.at_) := hx.cell 1
  have x2 : w.cell? ⟨x.b, 2, none⟩ = some (.int .i64 x.set) := hx.cell 2
  have y1 : w.cell? ⟨y.b, 1, none⟩ = some (.int .i64 y.at_) := hy.cell 1
  have y2 : w.cell? ⟨y.b, 2, none⟩ = some (.int .i64 y.set) := hy.cell 2
  have hxl := hx.lt
  have hyl := hy.lt
  replace hr := hid hr
  obtain ⟨xb, xk, xa, xs⟩ := x
  obtain ⟨yb, yk, ya, ys⟩ := y
  clear hx hy
  simp only [] at x1 x2 y1 y2 hxl hyl
  go_enter Try.func44, Try.ntmps44
  go_wp2_with fail
  go_region_held3 (fun w' => w'.cell? ⟨xb, 1, none⟩ = some (.int .i64 xa) ∧ w'.cell? ⟨xb, 2, none⟩ = some (.int .i64 xs) ∧ w'.cell? ⟨yb, 1, none⟩ = some (.int .i64 ya) ∧ w'.cell? ⟨yb, 2, none⟩ = some (.int .i64 ys)) (go_keep) (first | (go_at_call 59; refine (cmp64_any _ _ _).mono ?_; rintro e _ ⟨rfl, rfl⟩) | (go_at_call 60; refine (cmp_any _ _ _).mono ?_; rintro e _ ⟨rfl, rfl⟩) | (go_at_call 58; refine (or_any (cmpZ xa ya) (cmpZ xs ys) _ _ (by go_cell) (by go_cell)).mono ?_; rintro e _ ⟨rfl, rfl⟩))
  go_wp2
  go_returns
  refine ⟨by rw [hr.out]; rfl, 1, #[.cells #[.int .i64 (cmpZ xa ya), .int .i64 (cmpZ xs ys)] 3], ?_⟩
  rw [alloc_eq_grow]; rfl

section
variable {α : Type} [Inhabited α] {enc : α → Value}
theorem heap_sorted2 {w : World} {g n : Nat} {os : Array Obj} {cur : Array Value} {e : TypeId} {fr : Nat × Nat} (d : Array α) (hb : w.heap[g]? = some (.cells cur e fr)) :
    (sortWorld enc w g 0 n d os).heap[g]? = some (.cells (putCells enc 0 d cur) e fr) := by
  have hg : g < w.heap.size := (Array.getElem?_eq_some_iff.1 hb).1
  unfold sortWorld
  rw [heap_grow_old _ _ (by simpa using hg)]
  simp [putRow, mapBlock, Sort.ahead, Array.getElem?_modify, hb, onCells]
theorem grownBy_sorted2 {w : World} {g n : Nat} {os : Array Obj} (d : Array α) : w.grownBy (sortWorld enc w g 0 n d os) (some g) := by
  unfold sortWorld
  refine ⟨rfl, rfl, rfl, by simp, fun k hk hne => ?_⟩
  rw [heap_grow_old _ _ (by simpa using hk)]
  have : g ≠ k := fun e => hne (by rw [e])
  simp [putRow, mapBlock, Sort.ahead, Array.getElem?_modify, this]
theorem take_putCells2 (cur : Array Value) (ts : List α) (h : ts.length ≤ cur.size) : (putCells enc 0 ts.toArray cur).toList.take ts.length = ts.map enc := by
  apply List.ext_getElem?
  intro j
  by_cases hj : j < ts.length
  · rw [List.getElem?_take_of_lt hj, Array.getElem?_toList]
    simp [putCells, hj, show j < cur.size by omega]
  · rw [List.getElem?_take_eq_none (by omega), List.getElem?_eq_none (by simp; omega)]
end

theorem swo_ahead (hs : List Nd) : SWO (ltOf (fun x y : { x : Nd // x ∈ hs } => aheadZ x.1 y.1)) := by
  have e : ∀ x y : { x : Nd // x ∈ hs }, ltOf (fun x y : { x : Nd // x ∈ hs } => aheadZ x.1 y.1) x y = decide (x.1.lt y.1) := fun x y => by
    rw [← aheadZ_lt]; rfl
  refine ⟨fun x => ?_, fun x y z h1 h2 => ?_, fun x y z h1 h2 => ?_⟩
  · rw [e]; simp [Nd.lt]
  · rw [e] at *; simp only [decide_eq_true_eq] at *; unfold Nd.lt at *; omega
  · rw [e] at *; simp only [decide_eq_false_iff_not] at *; unfold Nd.lt at *; omega
end Go.Proofs.Ytllkeifldfmbkaa
