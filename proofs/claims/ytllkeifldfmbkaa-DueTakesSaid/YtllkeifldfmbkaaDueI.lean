/- Layer 12: what is due as a list in memory; New, At, Stop. -/
import Derived.Test.YtllkeifldfmbkaaDueH
import Derived.Test.YtllkeifldfmbkaaDueP
import Derived.WalkSpells
namespace Go.Proofs.Ytllkeifldfmbkaa
open Go.RowKit

structure DueS (w : World) (F : Nat → Prop) (lb : Nat) (most now : Int) (L : List Nd) : Prop where
  ex : ∃ av mb mp hs, LstM w lb (.map (some mb)) (.int .i64 most) (.int .i64 now) av hs ∧ GMap intKey w mb mp ∧ Heap hs hs.length ∧ hs.Perm L ∧ (∀ k, mget mp k = (keyL L k).map ptr) ∧ mp.length = L.length ∧ (∀ b, F b ↔ Foot lb av hs b ∨ b = mb)
  sorted : L.Pairwise Nd.lt
  keys : (L.map (·.key)).Nodup
  ok : ∀ x ∈ L, x.set ≤ now ∧ 0 ≤ x.key ∧ 0 ≤ x.at_
theorem DueS.chg {w w' : World} {F G : Nat → Prop} {lb : Nat} {most now : Int} {L : List Nd} (h : DueS w F lb most now L) (k : Chg G w w') (hF : ∀ b, F b → ¬ G b) : DueS w' F lb most now L := by
  obtain ⟨⟨av, mb, mp, hs, h1, h2, h3, h4, h5, h6, h7⟩, r1, r2, r3⟩ := h
  exact ⟨⟨av, mb, mp, hs, h1.chg k (fun b hb => hF b ((h7 b).2 (.inl hb))), h2.chg k (hF mb ((h7 mb).2 (.inr rfl))), h3, h4, h5, h6, h7⟩, r1, r2, r3⟩
theorem DueS.next {w w' : World} {F : Nat → Prop} {lb : Nat} {most now : Int} {L : List Nd} (h : DueS w F lb most now L) (k : Below w.heap.size w w') : DueS w' F lb most now L := h.chg (Chg.of_below (F := fun _ => False) k) (fun _ _ => id)
/-- The list's blocks are there. -/
theorem DueS.lt {w : World} {F : Nat → Prop} {lb : Nat} {most now : Int} {L : List Nd} (h : DueS w F lb most now L) : ∀ b, F b → b < w.heap.size := by
  obtain ⟨⟨av, mb, mp, hs, h1, h2, _, _, _, _, h7⟩, _⟩ := h
  intro b hb
  rcases (h7 b).1 hb with (rfl | hb | hb) | rfl
  · exact h1.blk.lt
  · exact (h1.heap.arr.lt b hb).2
  · obtain ⟨x, hx, rfl⟩ := List.mem_map.1 hb
    obtain ⟨i, hi⟩ := List.getElem?_of_mem hx
    exact (h1.heap.node i x hi).lt
  · exact h2.lt
theorem zero_ptr (w : World) : (zeroValue 99).run Try.prog w = .ok (.pointer none) w := by kernel_rfl
noncomputable def dueKeys : KeyKind Try.prog 3 intKey := KeyKind.int Try.underlying3
/-- What a key's lookup gives. -/
def ptrO (o : Option Nd) : Value := match o with | some x => .pointer (some ⟨x.b, 0, none⟩) | none => .pointer none
theorem due_look {w : World} {mb : Nat} {mp : List (Int × Value)} {L : List Nd} (h : GMap intKey w mb mp) (hk : ∀ k, mget mp k = (keyL L k).map ptr) (k : Int) :
    (Instr.lookup 94 (.map (some mb)) (.int .i64 k) false).run Try.prog w = .ok (ptrO (keyL L k)) w := by
  have := h.lookup (P := Try.prog) dueKeys Try.underlying94 (zero_ptr w) k false
  rw [hk] at this
  simp only [Bool.false_eq_true, if_false] at this
  unfold intKey at this
  rw [this]
  cases keyL L k <;> rfl

def NewP (w : World) (most : Int) (e : Ending) (w' : World) : Prop :=
  ∃ lb, e = .returned (.tuple #[.pointer (some ⟨lb, 0, none⟩), .int .i64 0]) ∧ (∃ F, DueS w' F lb most 0 [] ∧ ∀ b, F b → w.heap.size ≤ b) ∧ Below w.heap.size w w'
set_option maxHeartbeats 400000 in
theorem dnew_bad (most : Int) (w : World) (h : most < 0 ∨ 1000 < most) : Calls Try.prog 17 #[.int .i64 most] w fun e w' => e = .returned (.tuple #[.pointer none, .int .i64 1]) ∧ w = w' := by
  rcases h with h | h
  all_goals
    go_enter Try.func17, Try.ntmps17
    go_wp2
    go_returns
    exact ⟨rfl, rfl⟩
set_option maxHeartbeats 400000 in
theorem dnew_ok (most : Int) (w : World) (h0 : 0 ≤ most) (h1 : most ≤ 1000) : Calls Try.prog 17 #[.int .i64 most] w (NewP w most) := by
  have hmm := @run_makeMap Try.prog
  have hm := GMap.new intKey w
  have hb := Blk.new (w.alloc (.map #[] 0)) 98 [.slice none 0 0, .map (some w.heap.size), .int .i64 most, .int .i64 0]
  have hm' := hm.alloc (.cells #[.slice none 0 0, .map (some w.heap.size), .int .i64 most, .int .i64 0] 98)
  rw [World.size_alloc] at hb
  have hfin : NewP w most (.returned (.tuple #[.pointer (some ⟨w.heap.size + 1, 0, none⟩), .int .i64 0])) ((w.alloc (.map #[] 0)).alloc (.cells #[.slice none 0 0, .map (some w.heap.size), .int .i64 most, .int .i64 0] 98)) := by
    refine ⟨w.heap.size + 1, rfl, ⟨fun b => Foot (w.heap.size + 1) (.slice none 0 0) [] b ∨ b = w.heap.size, ⟨⟨.slice none 0 0, w.heap.size, [], [], ⟨hb, World.ownsRow_nil _ _ _ _, by simp, by simp⟩, hm', fun k hk hkn => by simp at hkn, List.Perm.refl _, fun k => rfl, rfl, fun b => Iff.rfl⟩, List.Pairwise.nil, by simp, by simp⟩, ?_⟩, by go_grown⟩
    rintro b ((rfl | hb | hb) | rfl)
    · omega
    · cases hb
    · simp at hb
    · exact Nat.le_refl _
  replace hfin := hid hfin
  clear hm hb hm'
  go_enter Try.func17, Try.ntmps17
  go_wp2
  go_returns
  exact hfin.out

def atV (o : Option Nd) : Value := match o with | some x => .tuple #[.int .i64 x.at_, .bool true] | none => .tuple #[.int .i64 0, .bool false]
set_option maxHeartbeats 400000 in
theorem dat_any (F : Nat → Prop) (lb : Nat) (most now : Int) (L : List Nd) (key : Int) (w : World) (h : DueS w F lb most now L) :
    Calls Try.prog 27 #[.pointer (some ⟨lb, 0, none⟩), .int .i64 key] w fun e w' => e = .returned (atV (keyL L key)) ∧ w = w' := by
  obtain ⟨⟨av, mb, mp, hs, h1, h2, h3, h4, h5, h6, h7⟩, _⟩ := h
  have l1 : w.cell? ⟨lb, 1, none⟩ = some (.map (some mb)) := h1.blk.cell 1
  have hlk := due_look h2 h5 key
  cases hk : keyL L key with
  | none =>
    rw [hk] at hlk
    unfold ptrO at hlk
    simp only [] at hlk
    clear h1 h2 h3 h4 h5 h6 h7 hk
    go_enter Try.func27, Try.ntmps27
    go_wp2
    go_returns
    exact ⟨rfl, rfl⟩
  | some x =>
    rw [hk] at hlk
    unfold ptrO at hlk
    simp only [] at hlk
    obtain ⟨i, hi⟩ := List.getElem?_of_mem (h4.mem_iff.2 (keyL_mem hk).1)
    have x1 : w.cell? ⟨x.b, 1, none⟩ = some (.int .i64 x.at_) := (h1.heap.node i x hi).cell 1
    clear h1 h2 h3 h4 h5 h6 h7 hk hi
    obtain ⟨xb, xk, xa, xs⟩ := x
    simp only [] at hlk x1
    go_enter Try.func27, Try.ntmps27
    go_wp2
    go_returns
    exact ⟨rfl, rfl⟩
end Go.Proofs.Ytllkeifldfmbkaa
