/- Words for memory used by all walks of this seat: what changes outside a set of blocks, blocks known whole, slices that read as lists, maps keyed by int64. No program in sight. -/
import Derived.Below
import Derived.WalkKit
import Derived.Handy
import Derived.Carry
import Derived.Deep.Draws
import Derived.Maps.Own
import Derived.Maps.OwnOps
import Derived.Maps.OwnSet
namespace Go.Proofs.Ytllkeifldfmbkaa
open Go.RowKit

/-- A fact kept from the walk. -/
theorem hid {p : Prop} (h : p) : Hid p := h
theorem _root_.Go.RowKit.Below.next {a b c : World} (h : Below a.heap.size a b) (k : Below b.heap.size b c) : Below a.heap.size a c := h.trans (k.mono h.size)
theorem _root_.Go.RowKit.Below.drewN {B : Nat} {a w : World} (h : Below B a w) (n : Nat) : Below B a (w.drewN n) := ⟨h.os, h.tape, h.output, h.size, h.block⟩
/-- What was there reads as before. -/
theorem bcell {W w1 : World} (hb : Below W.heap.size W w1) : (∀ b o, b < W.heap.size → w1.cell? ⟨b, o, none⟩ = W.cell? ⟨b, o, none⟩) ∧ (∀ b o, b < W.heap.size → w1.frozen? ⟨b, o, none⟩ = W.frozen? ⟨b, o, none⟩) :=
  ⟨fun b o h => hb.cell (p := ⟨b, o, none⟩) h, fun b o h => hb.frozen (p := ⟨b, o, none⟩) h⟩
/-- Outside the blocks in F nothing that was there has changed. -/
structure Chg (F : Nat → Prop) (w w' : World) : Prop where
  os : w'.os = w.os
  tape : w'.tape = w.tape
  output : w'.output = w.output
  size : w.heap.size ≤ w'.heap.size
  block : ∀ k, k < w.heap.size → ¬ F k → w'.heap[k]? = w.heap[k]?

theorem Chg.refl (F : Nat → Prop) (w : World) : Chg F w w := ⟨rfl, rfl, rfl, Nat.le_refl _, fun _ _ _ => rfl⟩
theorem Chg.trans {F : Nat → Prop} {a b c : World} (h : Chg F a b) (k : Chg F b c) : Chg F a c :=
  ⟨k.os.trans h.os, k.tape.trans h.tape, k.output.trans h.output, Nat.le_trans h.size k.size,
   fun i hi hF => (k.block i (Nat.lt_of_lt_of_le hi h.size) hF).trans (h.block i hi hF)⟩
/-- Two steps; the second one may also change what was new at the first. -/
theorem Chg.trans' {F G : Nat → Prop} {a b c : World} (h : Chg F a b) (k : Chg G b c) (hG : ∀ i, i < a.heap.size → G i → F i) : Chg F a c :=
  ⟨k.os.trans h.os, k.tape.trans h.tape, k.output.trans h.output, Nat.le_trans h.size k.size,
   fun i hi hF => (k.block i (Nat.lt_of_lt_of_le hi h.size) (fun g => hF (hG i hi g))).trans (h.block i hi hF)⟩
theorem Chg.mono {F G : Nat → Prop} {a b : World} (h : Chg F a b) (hG : ∀ i, F i → G i) : Chg G a b :=
  ⟨h.os, h.tape, h.output, h.size, fun i hi hg => h.block i hi (fun hf => hg (hG i hf))⟩
theorem Chg.of_below {F : Nat → Prop} {a b : World} (h : Below a.heap.size a b) : Chg F a b :=
  ⟨h.os, h.tape, h.output, h.size, fun i hi _ => h.block i hi⟩
theorem Chg.below {a b : World} (h : Chg (fun _ => False) a b) : Below a.heap.size a b :=
  ⟨h.os, h.tape, h.output, h.size, fun i hi => h.block i hi id⟩
/-- What lies from B on is the call's own. -/
theorem Chg.below_of {F : Nat → Prop} {B : Nat} {a b c : World} (h : Below B a b) (k : Chg F b c) (hB : B ≤ b.heap.size) (hF : ∀ i, F i → B ≤ i) : Below B a c :=
  h.trans ⟨k.os, k.tape, k.output, k.size, fun i hi => k.block i (by omega) (fun f => by have := hF i f; omega)⟩
theorem Chg.alloc (F : Nat → Prop) (w : World) (o : Obj) : Chg F w (w.alloc o) := .of_below ((Below.refl _ _).alloc (Nat.le_refl _) _)
theorem Chg.drew (F : Nat → Prop) (w : World) : Chg F w w.drew := ⟨rfl, rfl, rfl, Nat.le_refl _, fun _ _ _ => rfl⟩
theorem Chg.setCell {F : Nat → Prop} (w : World) {p : Addr} (hp : F p.block) (u : Value) : Chg F w (w.setCell p u) :=
  ⟨rfl, rfl, rfl, by simp [World.setCell], fun k _ hF => Below.heap_setCell _ _ _ _ (fun e => hF (by subst e; exact hp))⟩
theorem Chg.grown {F : Nat → Prop} {w w' : World} {row : Option Nat} (hg : w.grownBy w' row) (hr : ∀ k, row = some k → F k) : Chg F w w' :=
  ⟨hg.os, hg.tape, hg.output, hg.size, fun k hk hF => hg.block k hk (fun e => hF (hr k e.symm))⟩

theorem Chg.set {F : Nat → Prop} {a w : World} (h : Chg F a w) {p : Addr} (hp : F p.block) (u : Value) : Chg F a (w.setCell p u) := h.trans (Chg.setCell w hp u)
theorem Chg.new {F : Nat → Prop} {a w : World} (h : Chg F a w) (o : Obj) : Chg F a (w.alloc o) := h.trans (Chg.alloc F w o)
theorem Chg.draw {F : Nat → Prop} {a w : World} (h : Chg F a w) : Chg F a w.drew := h.trans (Chg.drew F w)
theorem Chg.drewN {F : Nat → Prop} {a w : World} (h : Chg F a w) (n : Nat) : Chg F a (w.drewN n) := ⟨h.os, h.tape, h.output, h.size, h.block⟩
/-- Block b is the cells cs of type t. -/
def Blk (w : World) (b : Nat) (t : TypeId) (cs : List Value) : Prop := w.heap[b]? = some (.cells cs.toArray t (0, 0))

section
variable {w w' : World} {b : Nat} {t : TypeId} {cs : List Value} {F : Nat → Prop}
theorem Blk.lt (h : Blk w b t cs) : b < w.heap.size := (Array.getElem?_eq_some_iff.1 h).1
theorem Blk.cell (h : Blk w b t cs) (i : Nat) : w.cell? ⟨b, i, none⟩ = cs[i]? := by
  rw [cell_of_row w b i _ t (0, 0) h]; simp
theorem Blk.free (h : Blk w b t cs) (i : Nat) : w.frozen? ⟨b, i, none⟩ = false := by
  unfold Blk at h; simp [World.frozen?, h]
theorem Blk.new (w : World) (t : TypeId) (cs : List Value) : Blk (w.alloc (.cells cs.toArray t)) w.heap.size t cs := heap_alloc_new w _
theorem Blk.chg (h : Blk w b t cs) (k : Chg F w w') (hF : ¬ F b) : Blk w' b t cs := (k.block b h.lt hF).trans h
theorem Blk.below {B : Nat} (h : Blk w b t cs) (k : Below B w w') (hB : b < B) : Blk w' b t cs := (k.block b hB).trans h
theorem Blk.drewN (h : Blk w b t cs) (n : Nat) : Blk (w.drewN n) b t cs := h
theorem Blk.next (h : Blk w b t cs) (k : Below w.heap.size w w') : Blk w' b t cs := h.below k h.lt
theorem Blk.alloc (h : Blk w b t cs) (o : Obj) : Blk (w.alloc o) b t cs := h.chg (Chg.alloc (fun _ => False) w o) id
theorem Blk.drew (h : Blk w b t cs) : Blk w.drew b t cs := h
theorem Blk.set (h : Blk w b t cs) (i : Nat) (u : Value) : Blk (w.setCell ⟨b, i, none⟩ u) b t (cs.set i u) := by
  unfold Blk at h ⊢
  simp [World.setCell, Array.getElem?_modify, h]
theorem Blk.far (h : Blk w b t cs) {p : Addr} (hp : b ≠ p.block) (u : Value) : Blk (w.setCell p u) b t cs := (Below.heap_setCell w p u b hp).trans h
end

/-- The slice value '.slice A n c' reads as the cells xs, elements of the given size, all in blocks that S allows. -/
def Rd (w : World) (S : Nat → Prop) (size : Nat) (A : Option Addr) (n : Nat) (xs : List Value) : Prop :=
  xs.length = n * size ∧ (0 < n → ∃ b o, A = some ⟨b, o, none⟩ ∧ b < w.heap.size ∧ S b ∧ ∀ j u, xs[j]? = some u → w.cell? ⟨b, o + j, none⟩ = some u)

section
variable {w w' : World} {S S' F : Nat → Prop} {size n : Nat} {A : Option Addr} {xs : List Value}
theorem Rd.nil : Rd w S size A 0 [] := ⟨by simp, fun h => absurd h (by omega)⟩
theorem Rd.chg (h : Rd w S size A n xs) (k : Chg F w w') (hS : ∀ b, S b → ¬ F b) : Rd w' S size A n xs :=
  ⟨h.1, fun hn => by
    obtain ⟨b, o, e, hb, hs, hc⟩ := h.2 hn
    exact ⟨b, o, e, Nat.lt_of_lt_of_le hb k.size, hs, fun j u hu => (World.cell?_of_block (k.block b hb (hS b hs))).trans (hc j u hu)⟩⟩
theorem Rd.chg' (h : Rd w S size A n xs) (k : Chg F w w') (hS : ∀ b, S b → F b → False) : Rd w' S size A n xs := h.chg k hS
theorem Rd.more (h : Rd w S size A n xs) (hS : ∀ b, b < w.heap.size → S b → S' b) : Rd w S' size A n xs :=
  ⟨h.1, fun hn => by
    obtain ⟨b, o, e, hb, hs, hc⟩ := h.2 hn
    exact ⟨b, o, e, hb, hS b hb hs, hc⟩⟩
theorem Rd.below (h : Rd w S size A n xs) (k : Below w.heap.size w w') : Rd w' S size A n xs := h.chg (Chg.of_below (F := fun _ => False) k) (fun _ _ => id)
theorem Rd.alloc (h : Rd w S size A n xs) (o : Obj) : Rd (w.alloc o) S size A n xs := h.chg (Chg.alloc (fun _ => False) w o) (fun _ _ => id)
theorem Rd.drew (h : Rd w S size A n xs) : Rd w.drew S size A n xs := h
theorem Rd.at_ (h : Rd w S size A n xs) {k : Nat} (hk : k < n) : ∃ b o, A = some ⟨b, o, none⟩ ∧ b < w.heap.size ∧ S b ∧ ∀ i, i < size → w.cell? ⟨b, o + (k * size + i), none⟩ = xs[k * size + i]? := by
  obtain ⟨b, o, e, hb, hs, hc⟩ := h.2 (by omega)
  refine ⟨b, o, e, hb, hs, fun i hi => ?_⟩
  have hlt : k * size + i < xs.length := by
    rw [h.1]
    have : (k + 1) * size ≤ n * size := Nat.mul_le_mul_right _ hk
    rw [Nat.add_mul] at this; omega
  rw [List.getElem?_eq_getElem hlt]
  exact hc _ _ (List.getElem?_eq_getElem hlt)
theorem Rd.of_own {base : Nat} {e : TypeId} {c : Nat} (h : w.ownsRow base e size (.slice A n c) n xs) (hS : ∀ g, base ≤ g → g < w.heap.size → S g) : Rd w S size A n xs := by
  refine ⟨h.1, fun hn => ?_⟩
  rcases h.2 with ⟨hv, h0⟩ | ⟨g, cap, cur, hv, hb, hg, _⟩
  · omega
  · have hA : A = some ⟨g, 0, none⟩ := by injection hv
    have hlt : g < w.heap.size := (Array.getElem?_eq_some_iff.1 hg).1
    refine ⟨g, 0, hA, hlt, hS g hb hlt, fun j u hu => ?_⟩
    have := h.cells (g := g) (by simp [Value.ownBlock, hA]) j u hu
    rw [Addr.add_lit] at this
    exact this
end

section
variable {w w' : World} {base : Nat} {e : TypeId} {size n : Nat} {v : Value} {xs : List Value}
theorem own_chg {F : Nat → Prop} (h : w.ownsRow base e size v n xs) (k : Chg F w w') (hF : ∀ g, v.ownBlock = some g → ¬ F g) : w'.ownsRow base e size v n xs := by
  refine ⟨h.1, ?_⟩
  rcases h.2 with hn | ⟨g, cap, cur, rfl, hb, hg, rest⟩
  · exact .inl hn
  · exact .inr ⟨g, cap, cur, rfl, hb, (k.block g (Array.getElem?_eq_some_iff.1 hg).1 (hF g rfl)).trans hg, rest⟩
theorem own_blk_ne {g : Nat} {t : TypeId} {cs : List Value} (h : w.ownsRow base e size v n xs) (hg : Blk w g t cs) (hne : e ≠ t) : v.ownBlock ≠ some g := by
  rcases h.2 with ⟨rfl, _⟩ | ⟨g', cap, cur, rfl, _, hh, _⟩
  · simp [Value.ownBlock]
  · intro he
    have : g' = g := by simpa [Value.ownBlock] using he
    subst this
    unfold Blk at hg
    rw [hg] at hh
    injection hh with hh
    injection hh with _ ht
    exact hne ht.symm
theorem own_map_ne {b : Nat} {es : Array MapEntry} {c : Nat} (h : w.ownsRow base e size v n xs) (hb : w.heap[b]? = some (.map es c)) : v.ownBlock ≠ some b := by
  rcases h.2 with ⟨rfl, _⟩ | ⟨g', cap, cur, rfl, _, hh, _⟩
  · simp [Value.ownBlock]
  · intro he
    have : g' = b := by simpa [Value.ownBlock] using he
    subst this
    rw [hb] at hh; cases hh
theorem Blk.ne {g g' : Nat} {t t' : TypeId} {cs cs' : List Value} (h : Blk w g t cs) (h' : Blk w g' t' cs') (hne : t ≠ t') : g ≠ g' := by
  rintro rfl
  unfold Blk at h h'
  rw [h] at h'
  injection h' with h'
  injection h' with _ ht
  exact hne ht
theorem Rd.new {S : Nat → Prop} (w : World) (t : TypeId) (cs : List Value) (m size : Nat) (hl : cs.length = m * size) (hS : S w.heap.size) : Rd (w.alloc (.cells cs.toArray t)) S size (some ⟨w.heap.size, 0, none⟩) m cs := by
  refine ⟨hl, fun _ => ⟨w.heap.size, 0, rfl, by simp, hS, fun j u hu => ?_⟩⟩
  rw [(Blk.new w t cs).cell, Nat.zero_add]; exact hu
end
end Go.Proofs.Ytllkeifldfmbkaa
