/- Layer 12: slices.SortFunc and SortedFunc at the heap; All. -/
import Derived.Test.YtllkeifldfmbkaaDueW
import Derived.Test.YtllkeifldfmbkaaRefA
namespace Go.Proofs.Ytllkeifldfmbkaa
open Go.RowKit Go.Shelf Go.Lib Go.Sort

set_option maxRecDepth 100000 in
set_option maxHeartbeats 1000000 in
theorem dv_sort (hs L : List Nd) (blk cap base : Nat) (w : World) (hown : w.ownsRow base 99 1 (.slice (some ⟨blk, 0, none⟩) hs.length cap) hs.length (hs.map ptr)) (hnode : ∀ x ∈ hs, ∃ p : Int, Blk w x.b 101 (ndCells x p))
    (hp : hs.Perm L) (hL : L.Pairwise Nd.lt) (hne : hs ≠ []) (hl : hs.length ≤ 100000) :
    Calls Try.prog 56 #[.slice (some ⟨blk, 0, none⟩) hs.length cap, .func (.func 44) #[] #[]] w fun e w' => e = .returned (.tuple #[]) ∧ w'.ownsRow base 99 1 (.slice (some ⟨blk, 0, none⟩) hs.length cap) hs.length (L.map ptr) ∧ w.grownBy w' (some blk) := by
  obtain ⟨x0, hx0⟩ : ∃ x0, x0 ∈ hs := List.exists_mem_of_ne_nil hs hne
  haveI : Inhabited { x : Nd // x ∈ hs } := ⟨⟨x0, hx0⟩⟩
  have hfar : ∀ x ∈ hs, x.b ≠ blk := fun x hx e => by
    obtain ⟨p, hb⟩ := hnode x hx
    exact own_blk_ne hown hb (by decide) (by rw [e]; rfl)
  have hlen : (hs.attach).length = hs.length := List.length_attach
  have hmap : (hs.attach).map (fun x => ptr x.1) = hs.map ptr := by
    have := congrArg (List.map ptr) (List.attach_map_subtype_val hs)
    rw [List.map_map] at this
    exact this
  rcases hown.2 with ⟨h', _⟩ | ⟨g', cap', cur, h', hb, hg, hnc, hcm, hcs, htake⟩
  · simp at h'
  simp only [Value.slice.injEq, Option.some.injEq, Addr.mk.injEq, and_true, true_and] at h'
  obtain ⟨rfl, rfl⟩ := h'
  have hH : Holds (fun x : { x : Nd // x ∈ hs } => ptr x.1) w blk 0 hs.attach.toArray := by
    intro j hj
    have hj' : j < hs.length := by simpa using hj
    refine ⟨?_, by simp [World.frozen?, hg]⟩
    have h1 : (cur.toList.take (hs.length * 1))[j]? = (hs.map ptr)[j]? := by rw [htake]
    rw [List.getElem?_take_of_lt (by omega)] at h1
    simp only [World.cell?, hg, Nat.zero_add]
    simp only [Option.isSome_none, Bool.false_eq_true, if_false]
    rw [← Array.getElem?_toList, h1]
    simp [hj']
  have hblk : blk < w.heap.size := (Array.getElem?_eq_some_iff.1 hg).1
  have hcmp : CmpLays1 Try.prog 44 #[] (fun x : { x : Nd // x ∈ hs } => ptr x.1) (fun x y => aheadZ x.1 y.1) blk 0 hs.attach.toArray.size w := by
    intro m os dk _ x y
    have hgb := grownBy_sorted2 (enc := fun x : { x : Nd // x ∈ hs } => ptr x.1) (w := w) (g := blk) (n := m) (os := os) dk
    have hB : ∀ z : { x : Nd // x ∈ hs }, ∃ p : Int, Blk (sortWorld (fun x : { x : Nd // x ∈ hs } => ptr x.1) w blk 0 m dk os) z.1.b 101 (ndCells z.1 p) := fun z => by
      obtain ⟨p, hb⟩ := hnode z.1 z.2
      exact ⟨p, hb.chg (Chg.grown (F := fun b => b = blk) hgb (fun k hk => by injection hk with hk; exact hk.symm)) (hfar z.1 z.2)⟩
    obtain ⟨p, hx⟩ := hB x
    obtain ⟨q, hy⟩ := hB y
    exact ahead_lays x.1 y.1 p q _ hx hy
  have eg : ∀ args w, (callFunc 44 args).run Try.prog w = .ok (.enter 44 args) w := enters_of Try.func44 (by kernel_rfl) rfl
  have hT : ∀ x y : { x : Nd // x ∈ hs }, ltOf (fun x y : { x : Nd // x ∈ hs } => aheadZ x.1 y.1) x y = false → ltOf (fun x y : { x : Nd // x ∈ hs } => aheadZ x.1 y.1) y x = false → x = y := by
    intro x y h1 h2
    have e : ∀ x y : { x : Nd // x ∈ hs }, ltOf (fun x y : { x : Nd // x ∈ hs } => aheadZ x.1 y.1) x y = decide (x.1.lt y.1) := fun x y => by
      rw [← aheadZ_lt]; rfl
    rw [e] at h1 h2
    simp only [decide_eq_false_iff_not] at h1 h2
    have hxL := hp.mem_iff.1 x.2
    have hyL := hp.mem_iff.1 y.2
    obtain ⟨i, hi⟩ := List.getElem?_of_mem hxL
    obtain ⟨j, hj⟩ := List.getElem?_of_mem hyL
    rw [List.pairwise_iff_getElem] at hL
    have hil := List.getElem?_eq_some_iff.1 hi
    have hjl := List.getElem?_eq_some_iff.1 hj
    rcases Nat.lt_trichotomy i j with h | h | h
    · exact absurd (by have := hL i j hil.1 hjl.1 h; rwa [hil.2, hjl.2] at this) h1
    · subst h; rw [hi] at hj; injection hj with hj; exact Subtype.ext hj
    · exact absurd (by have := hL j i hjl.1 hil.1 h; rwa [hil.2, hjl.2] at this) h2
  have hcon := Any.slices_SortFunc_total Try.sortN (fun x : { x : Nd // x ∈ hs } => ptr x.1) (fun _ => rfl) (fun x y => aheadZ x.1 y.1) (swo_ahead hs) 44 #[] blk 0 cap hs.attach.toArray w eg hcmp hH hblk (by simp; omega) hT
  have hsz : hs.attach.toArray.size = hs.length := by simp
  rw [hsz] at hcon
  refine Calls.mono hcon ?_
  rintro e w' ⟨he, n, os, rfl⟩
  refine ⟨he, ?_, grownBy_sorted2 _⟩
  obtain ⟨M, hM⟩ : ∃ M, M = hs.attach.toArray.toList.mergeSort (fun x y => !(ltOf (fun x y : { x : Nd // x ∈ hs } => aheadZ x.1 y.1)) y x) := ⟨_, rfl⟩
  rw [← hM]
  have hMp : M.Perm hs.attach := by rw [hM]; exact List.mergeSort_perm _ _
  have hMs : (M.map (·.1)).Pairwise Nd.le := by
    rw [List.pairwise_map, hM]
    have hO := swo_ahead hs
    have := List.pairwise_mergeSort (le := fun x y => !(ltOf (fun x y : { x : Nd // x ∈ hs } => aheadZ x.1 y.1)) y x) (fun a b c h1 h2 => by simp at h1 h2 ⊢; exact hO.ntrans c b a h2 h1)
      (fun a b => by
        cases h1 : ltOf (fun x y : { x : Nd // x ∈ hs } => aheadZ x.1 y.1) b a
        · simp
        · cases h2 : ltOf (fun x y : { x : Nd // x ∈ hs } => aheadZ x.1 y.1) a b
          · simp
          · have := hO.trans _ _ _ h1 h2; rw [hO.irrefl] at this; cases this) hs.attach.toArray.toList
    refine this.imp (fun {a b} h => ?_)
    have e : ltOf (fun x y : { x : Nd // x ∈ hs } => aheadZ x.1 y.1) b a = decide (b.1.lt a.1) := by rw [← aheadZ_lt]; rfl
    rw [e] at h
    exact Nd.not_lt.1 (by simpa using h)
  have hML : M.map (·.1) = L := by
    refine sorted_unique L _ hL hMs ?_
    have h1 := hMp.map (·.1)
    have h2 : hs.attach.map (·.1) = hs := List.attach_map_subtype_val hs
    rw [h2] at h1
    exact h1.trans hp
  have hMl : M.length = hs.length := by rw [hMp.length_eq, hlen]
  have hLm : L.map ptr = M.map (fun x => ptr x.1) := by rw [← hML, List.map_map]; rfl
  refine ⟨by rw [List.length_map, ← hp.length_eq]; omega, .inr ⟨blk, cap, _, rfl, hb, heap_sorted2 _ hg, hnc, hcm, by simp [putCells, hcs], ?_⟩⟩
  have := take_putCells2 (enc := fun x : { x : Nd // x ∈ hs } => ptr x.1) cur M (by omega)
  rw [hLm, Nat.mul_one, ← hMl]
  exact this
end Go.Proofs.Ytllkeifldfmbkaa
