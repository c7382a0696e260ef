/- Layer 14: Gap, row, Put. -/
import Derived.Test.YtllkeifldfmbkaaOrdB
import Derived.Deep.LoopGhost
import Derived.StillTailTactics
import Derived.Deep.CutBlock
import Derived.Deep.DeepCutAuto
import Derived.Deep.Light
namespace Go.Proofs.Ytllkeifldfmbkaa
open Go.RowKit Go.Maps Go.Sort Go.Shelf
variable {X : Nat → Prop}

theorem zero34 (w : World) : (zeroValue 34).run Try.prog w = .ok (.agg #[.int .i64 0, .int .i64 0, .int .i64 0, .int .i64 0, .int .i64 0, .slice none 0 0]) w := by kernel_rfl
noncomputable def txKeys : KeyKind Try.prog 2 intKey := KeyKind.int Try.underlying2

theorem Ints.cons {w : World} {B : Nat} {v : Value} {n : Int} {r : List Int} (h : Ints w B v (n :: r)) :
    ∃ gb c, v = .slice (some ⟨gb, 0, none⟩) (r.length + 1) c ∧ B ≤ gb ∧ w.cell? ⟨gb, 0, none⟩ = some (.int .i64 n) := by
  have hc := fun g hg => World.ownsRow.cells (g := g) h hg 0 (.int .i64 n) rfl
  rcases h.2 with ⟨_, h0⟩ | ⟨g, cap, cur, rfl, hb, _⟩
  · simp at h0
  · refine ⟨g, cap, by simp, hb, ?_⟩
    have := hc g rfl
    rw [Addr.add_lit] at this
    exact this

set_option maxHeartbeats 400000 in
theorem gap_none (g mb : Nat) (o hv : Int) (w : World) (h : Bufr X w g mb o hv []) :
    Calls Try.prog 31 #[.pointer (some ⟨g, 0, none⟩)] w fun e w' => e = .returned (.tuple #[.int .i64 0, .int .i64 0, .bool false]) ∧ w = w' := by
  have c := h.blk.cell 2
  have hl : (Builtin.len_ #[80] 3 #[.map (some mb)]).run Try.prog w = .ok (.int .i64 0) w := by
    have := GMap.len (P := Try.prog) h.map Try.underlying80 3
    simpa [heldV] using this
  clear h
  go_enter Try.func31, Try.ntmps31
  go_wp2
  go_returns
  exact ⟨rfl, rfl⟩

set_option maxHeartbeats 400000 in
theorem gap_some (g mb : Nat) (o hv : Int) (m : Held) (w : World) (h : Bufr X w g mb o hv m) (hk : ∀ p ∈ m, -4611686018427387903 ≤ p.1 ∧ p.1 ≤ 4611686018427387903) (hl : m.length ≤ 1000000) (n : Int) (r : List Int)
    (hs : sortI (m.map (·.1)) = n :: r) (h0 : 0 ≤ hv) (h1 : hv ≤ 4611686018427387903) :
    Calls Try.prog 31 #[.pointer (some ⟨g, 0, none⟩)] w fun e w' => e = .returned (.tuple #[.int .i64 (hv + 1), .int .i64 (n - 1), .bool true]) ∧ Below w.heap.size w w' := by
  have hN : ∀ W, Below w.heap.size w W → Calls Try.prog 14 #[.pointer (some ⟨g, 0, none⟩)] W fun e w' => ∃ v, e = .returned v ∧ Ints w' W.heap.size v (n :: r) ∧ Below W.heap.size W w' := by
    intro W hW
    have := numbers_any g mb o hv m W (h.next hW) (fun p hp => by have := hk p hp; omega) hl
    rw [hs] at this
    exact this
  have hmem : n ∈ m.map (·.1) := by
    have : n ∈ sortI (m.map (·.1)) := by rw [hs]; simp
    exact (List.mergeSort_perm _ _).mem_iff.1 this
  obtain ⟨p, hp, rfl⟩ := List.mem_map.1 hmem
  have hb := hk p hp
  have hne : m.length ≠ 0 := by intro e; rw [List.length_eq_zero_iff] at e; subst e; cases hp
  have c1 : w.cell? ⟨g, 1, none⟩ = some (.int .i64 hv) := h.blk.cell 1
  have c2 : w.cell? ⟨g, 2, none⟩ = some (.map (some mb)) := h.blk.cell 2
  have hl : (Builtin.len_ #[80] 3 #[.map (some mb)]).run Try.prog w = .ok (.int .i64 m.length) w := by
    have := GMap.len (P := Try.prog) h.map Try.underlying80 3
    simpa [heldV] using this
  have hN := hid hN
  have hlt : g < w.heap.size := h.blk.lt
  have ht : ((m.length : Int) == 0) = false := by
    cases m with
    | nil => exact absurd rfl hne
    | cons a b => rfl
  obtain ⟨n, t, v⟩ := p
  simp only [] at hb hN ⊢
  have hb1 := hb.1
  have hb2 := hb.2
  have hw1 : IntKind.i64.wrap (hv + 1) = hv + 1 := IntWalk.i64_in _ (by omega)
  have hw2 : IntKind.i64.wrap (n - 1) = n - 1 := IntWalk.i64_in _ (by omega)
  clear h hk hs hmem hp hb hne
  go_enter Try.func31, Try.ntmps31
  go_wp2_with fail
  go_region_with (go_at_call 14; refine (hN.out _ ((Below.refl _ _).drew)).mono ?_; rintro e w1 ⟨v1, rfl, hv1, hb1⟩; obtain ⟨gb, cc, rfl, hgb, hcell⟩ := hv1.cons; have hk1 : w1.cell? ⟨g, 1, none⟩ = some (.int .i64 hv) := (hb1.cell hlt).trans c1; have hi : (0 : Int) < ((r.length + 1 : Nat) : Int) := by omega)
  all_goals
    go_wp2
    go_returns
    exact ⟨rfl, Below.next (Below.drew (Below.refl _ _)) hb1⟩

abbrev hgetL (m : Held) (k : Int) : Option (Tx × Value) := (m.find? (fun p => decide (k = p.1))).map (·.2)
def hget (m : Held) (k : Int) : Option (Tx × Value) := hgetL m k
def hdel (m : Held) (k : Int) : Held := m.filter (fun p => !decide (k = p.1))
theorem heldV_get (m : Held) (k : Int) : mget (heldV m) k = (hget m k).map (fun x => txVal x.1 x.2) := by
  unfold hget mget heldV
  rw [List.find?_map]
  simp only [Option.map_map, Function.comp_def]
theorem heldV_del (m : Held) (k : Int) : mdel (heldV m) k = heldV (hdel m k) := by
  unfold hdel mdel heldV
  rw [List.filter_map]
  rfl
/-- What is in order from number hv on. -/
def rowM : Nat → Int → Held → List (Tx × Value) × Int × Held
  | 0, hv, m => ([], hv, m)
  | n + 1, hv, m => match hget m (hv + 1) with
    | some tv => let r := rowM n (hv + 1) (hdel m (hv + 1)); (tv :: r.1, r.2)
    | none => ([], hv, m)

theorem lookup_held {w : World} {g mb : Nat} {o hv : Int} {m : Held} (h : Bufr X w g mb o hv m) (k : Int) :
    (Instr.lookup 80 (.map (some mb)) (.int .i64 k) true).run Try.prog w = .ok (match hget m k with
      | some x => .tuple #[txVal x.1 x.2, .bool true]
      | none => .tuple #[.agg #[.int .i64 0, .int .i64 0, .int .i64 0, .int .i64 0, .int .i64 0, .slice none 0 0], .bool false]) w := by
  have h1 := h.map.lookup (P := Try.prog) txKeys Try.underlying80 (zero34 w) k true
  rw [heldV_get] at h1
  cases hg : hget m k with
  | none => rw [hg] at h1; exact h1
  | some x => rw [hg] at h1; exact h1
end Go.Proofs.Ytllkeifldfmbkaa
