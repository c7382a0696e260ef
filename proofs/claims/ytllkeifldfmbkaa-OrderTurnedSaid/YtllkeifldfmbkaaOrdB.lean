/- Layer 14: the buffer in memory; New, Have, Back, Numbers, Gap. -/
import Derived.Test.YtllkeifldfmbkaaOrdA
import Derived.Test.YtllkeifldfmbkaaShelf
namespace Go.Proofs.Ytllkeifldfmbkaa
open Go.RowKit Go.Maps Go.Sort Go.Shelf
variable {X : Nat → Prop}

/-- The entries of a buffer's map: a number, the transaction that is held there, its writes' slice. -/
abbrev Held := List (Int × Tx × Value)
def heldV (m : Held) : List (Int × Value) := m.map (fun p => (p.1, txVal p.2.1 p.2.2))

structure Bufr (X : Nat → Prop) (w : World) (g mb : Nat) (o hv : Int) (m : Held) : Prop where
  blk : Blk w g 82 [.int .i64 o, .int .i64 hv, .map (some mb)]
  map : GMap intKey w mb (heldV m)
  ws : ∀ p ∈ m, Ws w (fun b => b ≠ g ∧ b ≠ mb ∧ ¬ X b) p.2.2 p.2.1.ws

theorem Bufr.chg {w w' : World} {g mb : Nat} {o hv : Int} {m : Held} {F : Nat → Prop} (h : Bufr X w g mb o hv m) (k : Chg F w w') (hF : ∀ b, ¬ F b) : Bufr X w' g mb o hv m :=
  ⟨h.blk.chg k (hF _), h.map.chg k (hF _), fun p hp => (h.ws p hp).chg k (fun b _ => hF b)⟩
theorem Bufr.next {w w' : World} {g mb : Nat} {o hv : Int} {m : Held} (h : Bufr X w g mb o hv m) (k : Below w.heap.size w w') : Bufr X w' g mb o hv m :=
  h.chg (Chg.of_below (F := fun _ => False) k) (fun _ => id)
theorem Bufr.ne {w : World} {g mb : Nat} {o hv : Int} {m : Held} (h : Bufr X w g mb o hv m) : g ≠ mb := h.map.ne_blk h.blk

set_option maxHeartbeats 400000 in
theorem new_name (o hv : Int) (w : World) (h : o < 0 ∨ 3 ≤ o) :
    Calls Try.prog 10 #[.int .i64 o, .int .i64 hv] w fun e w' => e = .returned (.tuple #[.pointer none, .int .i64 9]) ∧ w = w' := by
  rcases h with h | h
  all_goals
    go_enter Try.func10, Try.ntmps10
    go_wp2
    go_returns
    exact ⟨rfl, rfl⟩
set_option maxHeartbeats 400000 in
theorem new_arg (o hv : Int) (w : World) (h0 : 0 ≤ o) (h3 : o < 3) (h : hv < 0 ∨ 4611686018427387903 < hv) :
    Calls Try.prog 10 #[.int .i64 o, .int .i64 hv] w fun e w' => e = .returned (.tuple #[.pointer none, .int .i64 1]) ∧ w = w' := by
  rcases h with h | h
  all_goals
    go_enter Try.func10, Try.ntmps10
    go_wp2
    go_returns
    exact ⟨rfl, rfl⟩
set_option maxHeartbeats 400000 in
theorem new_ok (o hv : Int) (w : World) (h0 : 0 ≤ o) (h3 : o < 3) (h1 : 0 ≤ hv) (h2 : hv ≤ 4611686018427387903) :
    Calls Try.prog 10 #[.int .i64 o, .int .i64 hv] w fun e w' => e = .returned (.tuple #[.pointer (some ⟨w.heap.size + 1, 0, none⟩), .int .i64 0]) ∧ Bufr X w' (w.heap.size + 1) w.heap.size o hv [] ∧ Below w.heap.size w w' := by
  have hmm := @run_makeMap Try.prog
  go_enter Try.func10, Try.ntmps10
  go_wp2
  go_returns
  refine ⟨rfl, ⟨?_, ?_, ?_⟩, by go_grown⟩
  · have h := Blk.new (w.alloc (.map #[] 0)) 82 [.int .i64 o, .int .i64 hv, .map (some w.heap.size)]
    rw [World.size_alloc] at h
    exact h
  · exact (GMap.new intKey w).alloc _
  · intro p hp; cases hp

set_option maxHeartbeats 400000 in
theorem have_any (g mb : Nat) (o hv : Int) (m : Held) (w : World) (h : Bufr X w g mb o hv m) :
    Calls Try.prog 13 #[.pointer (some ⟨g, 0, none⟩)] w fun e w' => e = .returned (.int .i64 hv) ∧ w = w' := by
  have c := h.blk.cell 1
  clear h
  go_enter Try.func13, Try.ntmps13
  go_wp2
  go_returns
  exact ⟨rfl, rfl⟩

set_option maxHeartbeats 400000 in
theorem back_no (g mb : Nat) (o hv : Int) (m : Held) (n : Int) (w : World) (h : Bufr X w g mb o hv m) (hn : n < 0 ∨ hv < n) :
    Calls Try.prog 32 #[.pointer (some ⟨g, 0, none⟩), .int .i64 n] w fun e w' => e = .returned (.bool false) ∧ w = w' := by
  have c := h.blk.cell 1
  clear h
  by_cases h0 : n < 0
  · go_enter Try.func32, Try.ntmps32
    go_wp2
    go_returns
    exact ⟨rfl, rfl⟩
  · have h1 : hv < n := by omega
    clear hn
    go_enter Try.func32, Try.ntmps32
    go_wp2
    go_returns
    exact ⟨rfl, rfl⟩

set_option maxHeartbeats 400000 in
theorem back_yes (g mb : Nat) (o hv : Int) (m : Held) (n : Int) (w : World) (h : Bufr X w g mb o hv m) (h0 : 0 ≤ n) (h1 : n ≤ hv) :
    Calls Try.prog 32 #[.pointer (some ⟨g, 0, none⟩), .int .i64 n] w fun e w' => e = .returned (.bool true) ∧ Bufr X w' g w.heap.size o n [] ∧ Chg (fun b => b = g) w w' := by
  have c := h.blk.cell
  have f := h.blk.free
  have hb := hid h.blk
  have hz := h.blk.lt
  have hmm := @run_makeMap Try.prog
  clear h
  go_enter Try.func32, Try.ntmps32
  go_wp2
  go_returns
  have B1 := (((hb.out).set 1 (.int .i64 n)).set 2 (.map (some w.heap.size))).alloc (.map #[] 0)
  refine ⟨rfl, ⟨B1, ?_, ?_⟩, ?_⟩
  · have h2 := GMap.new intKey ((w.setCell ⟨g, 1, none⟩ (.int .i64 n)).setCell ⟨g, 2, none⟩ (.map (some w.heap.size)))
    simp only [World.size_setCell] at h2
    exact h2
  · intro p hp; cases hp
  · exact (((Chg.refl (fun b => b = g) _).set (p := ⟨g, 1, none⟩) rfl _).set (p := ⟨g, 2, none⟩) rfl _).new _

/-- A reader that takes any value. -/
def anyElem (_ : Value) : Option (DataW Unit × List MemPlace) := some (.nil, [])

theorem wf_i64 {k : Int} (h : -9223372036854775808 ≤ k ∧ k ≤ 9223372036854775807) : (Lit.int .i64 k).wf = true := by
  have e1 : IntKind.i64.min = -9223372036854775808 := by decide
  have e2 : IntKind.i64.max = 9223372036854775807 := by decide
  rw [Lit.wf, e1, e2]
  simp [h.1, h.2]

theorem rg_any {P : Program} {kt : TypeId} (hk : P.underlying kt = some (.int .i64)) (x : MapEntry) (k : Int) (e : x.key = .int .i64 k) (hw : (Lit.int .i64 k).wf = true) :
    WideElems.rd P kt anyElem x = some (.int .i64 k, .nil) := by
  unfold WideElems.rd
  rw [e, Maps.keyOf_int_mk hk hw]
  rfl

theorem GMap.owns {P : Program} {kt : TypeId} (hkt : P.underlying kt = some (.int .i64)) {w : World} {b : Nat} {m : List (Int × Value)} (h : GMap intKey w b m) (hk : ∀ p ∈ m, -9223372036854775808 ≤ p.1 ∧ p.1 ≤ 9223372036854775807) (hl : m.length ≤ 1000000) :
    ∃ D : DataW Unit, w.ownsMap P kt anyElem b m.length D ∧ (intKeys D).Perm (m.map (·.1)) ∧ Maps.size D = m.length := by
  obtain ⟨es, clock, hb, hm, hn, hs1, hs2⟩ := h
  have hlen : es.size = m.length := by have := congrArg List.length hm; simpa using this
  have hat : ∀ x ∈ es.toList, ∃ p ∈ m, x.key = .int .i64 p.1 := by
    intro x hx
    have h1 : (x.key, x.val) ∈ es.toList.map (fun e => (e.key, e.val)) := List.mem_map.2 ⟨x, hx, rfl⟩
    rw [hm] at h1
    obtain ⟨p, hp, e⟩ := List.mem_map.1 h1
    exact ⟨p, hp, (congrArg Prod.fst e).symm⟩
  have hrg : es.toList.map (WideElems.rg P kt anyElem) = m.map (fun p => (Lit.int .i64 p.1, DataW.nil)) := by
    apply List.ext_getElem?
    intro i
    have h1 := congrArg (fun l => l[i]?) hm
    simp only [List.getElem?_map] at h1 ⊢
    cases hxi : es.toList[i]? with
    | none => rw [hxi] at h1; cases hmi : m[i]? with
      | none => rfl
      | some p => rw [hmi] at h1; cases h1
    | some x =>
      rw [hxi] at h1
      cases hmi : m[i]? with
      | none => rw [hmi] at h1; cases h1
      | some p =>
        rw [hmi] at h1
        simp only [Option.map_some, Option.some.injEq, Prod.mk.injEq] at h1 ⊢
        exact WideElems.rg_of (rg_any hkt x p.1 h1.1 (wf_i64 (hk p (List.mem_of_getElem? hmi))))
  have hkeys : es.toList.map (·.key) = m.map (fun p => Value.int .i64 p.1) := by
    have h1 := congrArg (List.map Prod.fst) hm
    simpa [List.map_map, Function.comp_def, intKey] using h1
  have hF : WideElems.Fit P kt (anyElem) es clock := by
    refine ⟨by rw [hlen]; simp only [maxLen]; omega, (MapKept.stamped_iff es clock).2 ⟨hs1, hs2, ?_⟩, fun x hx => ?_⟩
    · rw [← List.pairwise_map (f := MapEntry.key) (R := fun a b => a ≠ b), hkeys, List.pairwise_map]
      have hn' := hn
      rw [List.nodup_iff_pairwise_ne, List.pairwise_map] at hn'
      exact hn'.imp (fun {a b} hab e => hab (by injection e))
    · obtain ⟨p, hp, e⟩ := hat x hx
      exact ⟨_, rg_any hkt x p.1 e (wf_i64 (hk p hp))⟩
  refine ⟨_, ⟨es, clock, hb, hF, by omega, rfl⟩, ?_, ?_⟩
  · rw [hrg]
    have h1 := WideShapes.sorted_perm (m.map (fun p => (Lit.int .i64 p.1, (DataW.nil : DataW Unit))))
    have h2 := h1.map (fun p => Go.intOf p.1)
    have h3 : (m.map (fun p => (Lit.int .i64 p.1, (DataW.nil : DataW Unit)))).map (fun p => Go.intOf p.1) = m.map (·.1) := by
      rw [List.map_map]; rfl
    rw [h3] at h2
    exact h2
  · rw [Maps.size_eq, length_sorted, List.length_map]; simpa using hlen

/-- slices.Sort's two contracts at this dump, at the fence that asks nothing. -/
theorem sortsA (m : Nat) : AnyZI.SortsIn Try.prog Try.sortedA_ren Fence.wide m :=
  ⟨fun blk off cap ss W hH hblk hsz => callsIn_wide.2 (AnyM.slices_Sort_int Try.sortA blk off cap ss W hH hblk hsz),
   fun p cap W => callsIn_wide.2 (AnyM.slices_Sort_int_none Try.sortA p cap W)⟩

def sortI (l : List Int) : List Int := l.mergeSort (fun x y => decide (x ≤ y))

/-- The slice value v reads as the numbers xs, in new memory. -/
def Ints (w : World) (B : Nat) (v : Value) (xs : List Int) : Prop := w.ownsRow B 2 1 v xs.length (xs.map (Value.int .i64))

set_option maxHeartbeats 1000000 in
theorem numbers_any (g mb : Nat) (o hv : Int) (m : Held) (w : World) (h : Bufr X w g mb o hv m) (hk : ∀ p ∈ m, -9223372036854775808 ≤ p.1 ∧ p.1 ≤ 9223372036854775807) (hl : m.length ≤ 1000000) :
    Calls Try.prog 14 #[.pointer (some ⟨g, 0, none⟩)] w fun e w' => ∃ v, e = .returned v ∧ Ints w' w.heap.size v (sortI (m.map (·.1))) ∧ Below w.heap.size w w' := by
  obtain ⟨D, hown, hperm, hsize⟩ := h.map.owns Try.underlying2 (by
    intro p hp
    obtain ⟨q, hq, rfl⟩ := List.mem_map.1 hp
    exact hk q hq) (by simpa [heldV] using hl)
  have hperm' : (intKeys D).Perm (m.map (·.1)) := by
    have e : (heldV m).map (·.1) = m.map (·.1) := by simp [heldV, List.map_map, Function.comp_def]
    rw [e] at hperm
    exact hperm
  have hsz : Maps.size D ≤ 1000000 := by rw [hsize]; simpa [heldV] using hl
  have c := h.blk.cell 2
  have hbl := hown.lt
  clear h hk hl hperm hsize
  have hmax : Maps.size D ≤ maxLen := by simp only [maxLen]; omega
  have hbytes : Maps.size D * 8 ≤ 140737488355328 := by omega
  have hP := hid hperm'
  clear hperm' hsz
  refine (callsIn_wide (n := 6)).1 ?_
  have hseq : SeqGives Fence.wide 2 Try.prog 52 #[.pointer (some ⟨w.heap.size, 0, none⟩)] encZ (fun ss => ss.Perm (intKeys D)) (Maps.size D) (w.alloc (.cells #[.map (some mb)] 80)) :=
    AnyZI.keys_gives (ρ := Try.keysA_ren) { Try.keysA with } Fence.wide _ trivial rfl (by omega) w.heap.size mb _ D _ (by simp) (by simp) (by
      obtain ⟨es, clock, hb, Ft, hs, hD⟩ := hown
      exact ⟨es, clock, (Below.heap_alloc _ _ mb hbl).trans hb, Ft, hs, hD⟩)
  have cK : ∀ mb W, CallsIn Fence.wide 5 Try.prog 38 #[.map mb] W fun e w' => e = .returned (.func (.func 52) #[] #[.pointer (some ⟨W.heap.size, 0, none⟩)]) ∧ w' = W.alloc (.cells #[.map mb] 80) := fun mb W => AnyZI.keys_in Try.keysA Fence.wide 5 trivial rfl mb W
  have cS := AnyZI.sorted_in Try.sortedA Fence.wide 5 trivial trivial trivial trivial rfl (by omega) (sortsA _) (enters_of Try.func51 (by kernel_rfl) rfl) 52 #[.pointer (some ⟨w.heap.size, 0, none⟩)] trivial (enters_of Try.func52 (by kernel_rfl) rfl) _ _ hmax hbytes _ hseq
  change CallsIn _ _ Try.prog 37 _ _ _ at cS
  have hfK : Fence.wide.fn 38 := trivial
  have hfS : Fence.wide.fn 37 := trivial
  refine callsIn_of_wp Try.func14 rfl trivial ?_ rfl
  simp only [Try.ntmps14, List.size_toArray, List.length_cons, List.length_nil, Nat.reduceAdd, Nat.reduceSub, Array.replicate_succ, Array.replicate_zero, List.push_toArray, List.append_toArray, List.nil_append, List.cons_append]
  gi_wp2_with (first
    | (gi_at_call 38; refine (cK _ _).mono ?_; rintro e w' ⟨rfl, rfl⟩)
    | (gi_at_call 37; refine cS.mono ?_; rintro e w' ⟨v, ss, rfl, hS, hrow, hnil, hb⟩))
  go_ret
  have hsort : ss.mergeSort (fun x y => decide (x ≤ y)) = sortI (m.map (·.1)) := mergeSort_of_perm_i (hS.trans hP.out)
  refine ⟨v, rfl, ?_, ((Below.refl _ w).alloc (Nat.le_refl _) _).trans (hb.mono (by simp))⟩
  have h2 := ownsRow_base_a hrow (base' := w.heap.size) (by simp)
  rw [hsort] at h2
  unfold Ints
  have h3 : (sortI (m.map (·.1))).length = ss.length := by rw [← hsort, List.length_mergeSort]
  rw [h3]
  exact h2
end Go.Proofs.Ytllkeifldfmbkaa
