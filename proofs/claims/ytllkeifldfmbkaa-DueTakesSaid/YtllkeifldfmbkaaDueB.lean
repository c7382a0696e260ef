/- Layer 12: ahead. -/
import Derived.Test.YtllkeifldfmbkaaDueA
namespace Go.Proofs.Ytllkeifldfmbkaa
open Go.RowKit

def aheadZ (x y : Nd) : Int := orZ (cmpZ x.at_ y.at_) (cmpZ x.set y.set)
theorem aheadZ_lt (x y : Nd) : decide (aheadZ x y < 0) = decide (x.lt y) := by
  apply decide_eq_decide.2
  unfold aheadZ orZ cmpZ Nd.lt
  repeat' split
  all_goals omega
def ndCells (x : Nd) (p : Int) : List Value := [.int .i64 x.key, .int .i64 x.at_, .int .i64 x.set, .int .i64 p]

set_option maxHeartbeats 1000000 in
theorem ahead_any (x y : Nd) (p q : Int) (w : World) (hx : Blk w x.b 101 (ndCells x p)) (hy : Blk w y.b 101 (ndCells y q)) :
    Calls Try.prog 44 #[.pointer (some ⟨x.b, 0, none⟩), .pointer (some ⟨y.b, 0, none⟩)] w fun e w' => e = .returned (.int .i64 (aheadZ x y)) ∧ Below w.heap.size w w' := by
  obtain ⟨r, hr⟩ : ∃ r, r = aheadZ x y := ⟨_, rfl⟩
  rw [← hr]
  have x1 : w.cell? ⟨x.b, 1, none⟩ = some (.int .i64 x.at_) := hx.cell 1
  have x2 : w.cell? ⟨x.b, 2, none⟩ = some (.int .i64 x.set) := hx.cell 2
  have y1 : w.cell? ⟨y.b, 1, none⟩ = some (.int .i64 y.at_) := hy.cell 1
  have y2 : w.cell? ⟨y.b, 2, none⟩ = some (.int .i64 y.set) := hy.cell 2
  have hxl := hx.lt
  have hyl := hy.lt
  replace hr := hid hr
  obtain ⟨xb, xk, xa, xs⟩ := x
  obtain ⟨yb, yk, ya, ys⟩ := y
  clear hx hy
  simp only [] at x1 x2 y1 y2 hxl hyl
  go_enter Try.func44, Try.ntmps44
  go_wp2_with fail
  go_region_held3 (fun w' => w'.cell? ⟨xb, 1, none⟩ = some (.int .i64 xa) ∧ w'.cell? ⟨xb, 2, none⟩ = some (.int .i64 xs) ∧ w'.cell? ⟨yb, 1, none⟩ = some (.int .i64 ya) ∧ w'.cell? ⟨yb, 2, none⟩ = some (.int .i64 ys)) (go_keep) (first | (go_at_call 59; refine (cmp64_any _ _ _).mono ?_; rintro e _ ⟨rfl, rfl⟩) | (go_at_call 60; refine (cmp_any _ _ _).mono ?_; rintro e _ ⟨rfl, rfl⟩) | (go_at_call 58; refine (or_any (cmpZ xa ya) (cmpZ xs ys) _ _ (by go_cell) (by go_cell)).mono ?_; rintro e _ ⟨rfl, rfl⟩))
  go_wp2
  go_returns
  exact ⟨by rw [hr.out]; rfl, by go_grown⟩

def ptr (x : Nd) : Value := .pointer (some ⟨x.b, 0, none⟩)
/-- The heap in memory: an array of pointers to nodes, each with its place. -/
structure HeapM (w : World) (av : Value) (hs : List Nd) : Prop where
  arr : w.ownsRow 0 99 1 av hs.length (hs.map ptr)
  node : ∀ (i : Nat) x, hs[i]? = some x → Blk w x.b 101 (ndCells x (i : Int))
  nodup : (hs.map (·.b)).Nodup

theorem HeapM.form {w : World} {av : Value} {hs : List Nd} (h : HeapM w av hs) {k : Nat} (hk : k < hs.length) : ∃ g cap, av = .slice (some ⟨g, 0, none⟩) hs.length cap ∧ hs.length ≤ cap ∧ cap ≤ maxLen ∧ ∀ (i : Nat) x, hs[i]? = some x → w.cell? ⟨g, i, none⟩ = some (ptr x) := by
  have hc := fun g (hg : av.ownBlock = some g) => World.ownsRow.cells (g := g) h.arr hg
  rcases h.arr.2 with ⟨_, h0⟩ | ⟨g, cap, cur, rfl, _, _, h1, h2, _⟩
  · omega
  · refine ⟨g, cap, rfl, h1, h2, fun i x hx => ?_⟩
    have := hc g rfl i (ptr x) (by rw [List.getElem?_map, hx]; rfl)
    rw [Addr.add_lit, Nat.zero_add] at this
    exact this

set_option maxHeartbeats 400000 in
theorem hlen_any (av : Value) (hs : List Nd) (w : World) (h : HeapM w av hs) : Calls Try.prog 115 #[av] w fun e w' => e = .returned (.int .i64 hs.length) ∧ w = w' := by
  have h2 := h.arr.2
  clear h
  obtain ⟨A, c, rfl⟩ : ∃ A c, av = .slice A hs.length c := by
    rcases h2 with ⟨rfl, h0⟩ | ⟨g, cap, cur, rfl, _⟩
    · exact ⟨none, 0, by rw [h0]⟩
    · exact ⟨_, cap, rfl⟩
  clear h2
  go_enter Try.func115, Try.ntmps115
  go_wp2
  go_returns
  exact ⟨rfl, rfl⟩

set_option maxHeartbeats 1000000 in
theorem hless_any (av : Value) (hs : List Nd) (i j : Nat) (w : World) (h : HeapM w av hs) (hi : i < hs.length) (hj : j < hs.length) :
    Calls Try.prog 116 #[av, .int .i64 (i : Int), .int .i64 (j : Int)] w fun e w' => e = .returned (.bool (lessL hs i j)) ∧ Below w.heap.size w w' := by
  obtain ⟨g, cap, rfl, hc1, hc2, hcell⟩ := h.form hi
  obtain ⟨x, hx⟩ : ∃ x, hs[i]? = some x := ⟨_, List.getElem?_eq_getElem hi⟩
  obtain ⟨y, hy⟩ : ∃ y, hs[j]? = some y := ⟨_, List.getElem?_eq_getElem hj⟩
  have ci : w.cell? ⟨g, i, none⟩ = some (.pointer (some ⟨x.b, 0, none⟩)) := hcell i x hx
  have cj : w.cell? ⟨g, j, none⟩ = some (.pointer (some ⟨y.b, 0, none⟩)) := hcell j y hy
  have hb1 := h.node i x hx
  have hb2 := h.node j y hy
  have hA : ∀ W, Below w.heap.size w W → Calls Try.prog 44 #[.pointer (some ⟨x.b, 0, none⟩), .pointer (some ⟨y.b, 0, none⟩)] W fun e w' => e = .returned (.int .i64 (aheadZ x y)) ∧ Below W.heap.size W w' :=
    fun W hW => ahead_any x y _ _ W (hb1.next hW) (hb2.next hW)
  have hl : lessL hs i j = decide (aheadZ x y < 0) := by unfold lessL; rw [hx, hy, aheadZ_lt]
  have hgl : g < w.heap.size := h.arr.lt g rfl |>.2
  have hi0 : (0 : Int) ≤ (i : Int) := by omega
  have hj0 : (0 : Int) ≤ (j : Int) := by omega
  have hi1 : (i : Int) < (hs.length : Int) := by omega
  have hj1 : (j : Int) < (hs.length : Int) := by omega
  unfold maxLen at hc2
  rw [hl]
  replace hA := hid hA
  clear hl hcell h hb1 hb2 hx hy
  go_enter Try.func116, Try.ntmps116
  go_wp2_with fail
  go_region_held3 (fun w' => w'.cell? ⟨g, i, none⟩ = some (.pointer (some ⟨x.b, 0, none⟩)) ∧ w'.cell? ⟨g, j, none⟩ = some (.pointer (some ⟨y.b, 0, none⟩))) (go_keep) ((go_at_call 44; refine (hA.out _ (by go_grown)).mono ?_; rintro e w1 ⟨rfl, hb⟩; have hk1 : w1.cell? ⟨g, i, none⟩ = some (.pointer (some ⟨x.b, 0, none⟩)) := (hb.cell (p := ⟨g, i, none⟩) hgl).trans ci; have hk2 : w1.cell? ⟨g, j, none⟩ = some (.pointer (some ⟨y.b, 0, none⟩)) := (hb.cell (p := ⟨g, j, none⟩) hgl).trans cj))
  go_wp2
  go_returns
  exact ⟨rfl, Below.next (Below.drew (Below.refl _ _)) hb⟩
end Go.Proofs.Ytllkeifldfmbkaa
