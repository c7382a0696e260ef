/- Maps at the level of values: block b is a map with just the pairs m (keys of one plain kind), in the order in which they were put. -/
import Derived.Test.YtllkeifldfmbkaaWords
namespace Go.Proofs.Ytllkeifldfmbkaa
open Go.RowKit Go.MapKept

theorem mapErase {α β : Type} (f : α → β) : ∀ (l : List α) (i : Nat), (l.eraseIdx i).map f = (l.map f).eraseIdx i
  | [], _ => by simp
  | _ :: _, 0 => by simp
  | x :: r, i + 1 => by simp [mapErase f r i]
def setWorld (w : World) (b : Nat) (o : Obj) : World := { w with heap := w.heap.setIfInBounds b o }
theorem setWorld_chg (w : World) (b : Nat) (o : Obj) : Chg (fun i => i = b) w (setWorld w b o) :=
  ⟨rfl, rfl, rfl, by simp [setWorld], fun k _ hF => by simp only [setWorld]; rw [Array.getElem?_setIfInBounds_ne (fun e => hF e.symm)]⟩
theorem setWorld_at {w : World} {b : Nat} (hb : b < w.heap.size) (o : Obj) : (setWorld w b o).heap[b]? = some o := by simp [setWorld, hb]

/-- What is asked of the keys' type. -/
structure KeyKind (P : Program) (kt : TypeId) {K : Type} [DecidableEq K] (κ : K → Value) where
  kind : TypeDesc
  under : P.underlying kt = some kind
  same : ∀ a b, Instr.sameNow kind (κ a) (κ b) = some (decide (a = b))
  chk : ∀ e n x (w : World), (Instr.checkKey e (n + 1) kt (κ x)).run P w = .ok () w
  bits : ∀ a, Instr.sameBits 10000 (κ a) (κ a) = true

theorem beq_bytes (a b : ByteArray) : (a == b) = decide (a = b) := by
  have h : (a == b) = (a.data == b.data) := rfl
  rw [h, Bool.eq_iff_iff]
  simp only [beq_iff_eq, decide_eq_true_eq]
  constructor
  · intro e; cases a; cases b; simp at e; rw [e]
  · intro e; rw [e]
def intKey (k : Int) : Value := .int .i64 k
def strKey (s : ByteArray) : Value := .string s

def KeyKind.int {P : Program} {kt : TypeId} (h : P.underlying kt = some (.int .i64)) : KeyKind P kt intKey where
  kind := .int .i64
  under := h
  same := fun a b => by simp [Instr.sameNow, intKey]; rfl
  chk := fun e n x w => by simp [Instr.checkKey, run_underlying h, intKey]
  bits := fun a => by simp [Instr.sameBits, intKey]

def KeyKind.str {P : Program} {kt : TypeId} (h : P.underlying kt = some .string) : KeyKind P kt strKey where
  kind := .string
  under := h
  same := fun a b => by simp [Instr.sameNow, strKey, beq_bytes]
  chk := fun e n x w => by simp [Instr.checkKey, run_underlying h, strKey]
  bits := fun a => by simp [Instr.sameBits, strKey, beq_bytes]

section
variable {K : Type} [DecidableEq K]
def mget (m : List (K × Value)) (k : K) : Option Value := (m.find? (fun p => decide (k = p.1))).map (·.2)
def mput (m : List (K × Value)) (k : K) (v : Value) : List (K × Value) :=
  if (mget m k).isSome then m.map (fun p => if k = p.1 then (k, v) else p) else m ++ [(k, v)]
def mdel (m : List (K × Value)) (k : K) : List (K × Value) := m.filter (fun p => !decide (k = p.1))

end
section
variable {K : Type} (κ : K → Value)
def GMap (w : World) (b : Nat) (m : List (K × Value)) : Prop :=
  ∃ es clock, w.heap[b]? = some (.map es clock) ∧ es.toList.map (fun e => (e.key, e.val)) = m.map (fun p => (κ p.1, p.2)) ∧ (m.map (·.1)).Nodup ∧ (∀ e ∈ es.toList, e.born < clock) ∧ (es.toList.map (·.born)).Nodup
end

section
variable {K : Type} {κ : K → Value} {P : Program} {kt e t : TypeId} {w w' : World} {b : Nat} {m : List (K × Value)}
theorem GMap.lt (h : GMap κ w b m) : b < w.heap.size := by
  obtain ⟨es, clock, hb, _⟩ := h
  exact (Array.getElem?_eq_some_iff.1 hb).1
theorem GMap.chg {F : Nat → Prop} (h : GMap κ w b m) (k : Chg F w w') (hF : ¬ F b) : GMap κ w' b m := by
  have hl := h.lt
  obtain ⟨es, clock, hb, r⟩ := h
  exact ⟨es, clock, (k.block b hl hF).trans hb, r⟩
theorem GMap.next (h : GMap κ w b m) (k : Below w.heap.size w w') : GMap κ w' b m := h.chg (Chg.of_below (F := fun _ => False) k) id
theorem GMap.alloc (h : GMap κ w b m) (o : Obj) : GMap κ (w.alloc o) b m := h.chg (Chg.alloc (fun _ => False) w o) id
theorem GMap.drew (h : GMap κ w b m) : GMap κ w.drew b m := h
theorem GMap.drewN (h : GMap κ w b m) (n : Nat) : GMap κ (w.drewN n) b m := h
theorem GMap.setCell (h : GMap κ w b m) {p : Addr} (hp : p.block ≠ b) (u : Value) : GMap κ (w.setCell p u) b m :=
  h.chg (F := fun i => i = p.block) (Chg.setCell (F := fun i => i = p.block) w rfl u) (fun e => hp e.symm)
theorem GMap.new (κ : K → Value) (w : World) : GMap κ (w.alloc (.map #[] 0)) w.heap.size [] :=
  ⟨#[], 0, heap_alloc_new w _, rfl, List.nodup_nil, by simp, by simp⟩
theorem GMap.own_ne {base : Nat} {ty : TypeId} {size n : Nat} {v : Value} {xs : List Value} (h : GMap κ w b m) (ho : w.ownsRow base ty size v n xs) : v.ownBlock ≠ some b := by
  obtain ⟨es, clock, hb, _⟩ := h
  exact own_map_ne ho hb
theorem GMap.ne_blk (h : GMap κ w b m) {g : Nat} {ty : TypeId} {cs : List Value} (hg : Blk w g ty cs) : g ≠ b := by
  rintro rfl
  obtain ⟨es, clock, hb, _⟩ := h
  unfold Blk at hg
  rw [hb] at hg; cases hg

theorem GMap.len (h : GMap κ w b m) (ht : P.underlying t = some (.map kt e)) (ty : TypeId) : (Builtin.len_ #[t] ty #[.map (some b)]).run P w = .ok (.int .i64 m.length) w := by
  obtain ⟨es, clock, hb, hm, _⟩ := h
  have hgo : (getObj b).run P w = .ok (.map es clock) w := by simp [getObj, Sem.run, hb]
  have hl : es.size = m.length := by have := congrArg List.length hm; simpa using this
  simp [Builtin.len_, run_underlying ht, hgo, goInt, hl]

end
section
variable {K : Type} [DecidableEq K] {κ : K → Value} {P : Program} {kt e t : TypeId} {w w' : World} {b : Nat} {m : List (K × Value)}
theorem findNow_spec' (KK : KeyKind P kt κ) (k : K) : ∀ (es : List MapEntry) (m : List (K × Value)) (i : Nat), es.map (fun e => (e.key, e.val)) = m.map (fun p => (κ p.1, p.2)) →
    (mget m k = none ∧ Instr.findNow KK.kind (κ k) es i = some none) ∨ (∃ v j, mget m k = some v ∧ Instr.findNow KK.kind (κ k) es i = some (some (i + j, v)) ∧ m[j]? = some (k, v))
  | [], [], i, _ => .inl ⟨rfl, rfl⟩
  | [], _ :: _, _, h => by simp at h
  | _ :: _, [], _, h => by simp at h
  | e :: es, p :: m, i, h => by
    simp only [List.map_cons, List.cons.injEq, Prod.mk.injEq] at h
    obtain ⟨⟨hk, hv⟩, hr⟩ := h
    have hs := KK.same k p.1
    rw [← hk] at hs
    by_cases hkp : k = p.1
    · refine .inr ⟨e.val, 0, ?_, ?_, ?_⟩
      · simp [mget, hkp, hv]
      · simp only [Instr.findNow]; rw [hs]; simp [hkp]
      · rw [hv, hkp]; rfl
    · have hf : Instr.findNow KK.kind (κ k) (e :: es) i = Instr.findNow KK.kind (κ k) es (i + 1) := by
        simp only [Instr.findNow]; rw [hs]; simp [hkp]
      have hg : mget (p :: m) k = mget m k := by simp [mget, hkp]
      rw [hf, hg]
      rcases findNow_spec' KK k es m (i + 1) hr with ⟨h1, h2⟩ | ⟨v, j, h1, h2, h3⟩
      · exact .inl ⟨h1, h2⟩
      · exact .inr ⟨v, j + 1, h1, by rw [h2]; congr 3; omega, by simpa using h3⟩

theorem GMap.lookup (h : GMap κ w b m) (KK : KeyKind P kt κ) (ht : P.underlying t = some (.map kt e)) {z : Value} (hz : (zeroValue e).run P w = .ok z w) (k : K) (ok : Bool) :
    (Instr.lookup t (.map (some b)) (κ k) ok).run P w = .ok (if ok then .tuple #[(mget m k).getD z, .bool (mget m k).isSome] else (mget m k).getD z) w := by
  obtain ⟨es, clock, hb, hm, _⟩ := h
  have hc := KK.chk es.isEmpty 9999 k w
  have hgo : (getObj b).run P w = .ok (.map es clock) w := by simp [getObj, Sem.run, hb]
  rcases findNow_spec' KK k es.toList m 0 hm with ⟨h1, h2⟩ | ⟨v, j, h1, h2, _⟩
  · simp [Instr.lookup, run_underlying ht, hgo, hc, Instr.findKey, run_underlying KK.under, h2, hz, h1]
  · simp [Instr.lookup, run_underlying ht, hgo, hc, Instr.findKey, run_underlying KK.under, h2, h1]

theorem mget_none {m : List (K × Value)} {k : K} : mget m k = none ↔ k ∉ m.map (·.1) := by
  simp only [mget, Option.map_eq_none_iff, List.find?_eq_none, List.mem_map, not_exists, not_and]
  constructor
  · intro h p hp e; exact absurd (h p hp) (by simp [e])
  · intro h p hp; simp; intro e; exact h p hp e.symm

theorem GMap.update (h : GMap κ w b m) (KK : KeyKind P kt κ) (ht : P.underlying t = some (.map kt e)) (k : K) (v : Value) :
    ∃ w', (Instr.mapUpdate t (.map (some b)) (κ k) v).run P w = .ok () w' ∧ GMap κ w' b (mput m k v) ∧ Chg (fun i => i = b) w w' := by
  have hl := h.lt
  obtain ⟨es, clock, hb, hm, hn, hs1, hs2⟩ := h
  have hc := KK.chk false 9999 k w
  have hgo : (getObj b).run P w = .ok (.map es clock) w := by simp [getObj, Sem.run, hb]
  have hset : ∀ o : Obj, (setObj b o).run P w = .ok () (setWorld w b o) := fun o => by simp [setObj, Sem.run, hb, setWorld]
  rcases findNow_spec' KK k es.toList m 0 hm with ⟨h1, h2⟩ | ⟨v0, j, h1, h2, h3⟩
  · refine ⟨setWorld w b (.map (es.push ⟨κ k, v, clock⟩) (clock + 1)), ?_, ⟨_, _, setWorld_at hl _, ?_, ?_, ?_, ?_⟩, setWorld_chg w b _⟩
    · simp [Instr.mapUpdate, run_underlying ht, hgo, hc, Instr.findKey, run_underlying KK.under, h2, hset]
    · simp [mput, h1, hm]
    · rw [mput, h1]
      simp only [Option.isSome_none, Bool.false_eq_true, if_false, List.map_append, List.map_cons, List.map_nil]
      exact List.nodup_append.2 ⟨hn, by simp, by
        intro a ha c hc' e
        simp only [List.mem_singleton] at hc'
        subst hc'; subst e
        exact (mget_none.1 h1) ha⟩
    · intro x hx
      simp only [Array.toList_push, List.mem_append, List.mem_singleton] at hx
      rcases hx with hx | rfl
      · have := hs1 x hx; omega
      · simp
    · simp only [Array.toList_push, List.map_append, List.map_cons, List.map_nil]
      exact List.nodup_append.2 ⟨hs2, by simp, by
        intro a ha c hc' e
        simp only [List.mem_singleton] at hc'
        subst hc'; subst e
        obtain ⟨x, hx, e⟩ := List.mem_map.1 ha
        have := hs1 x hx; omega⟩
  · have hjl : j < es.size := by
      have h4 := congrArg List.length hm
      have h5 := (List.getElem?_eq_some_iff.1 h3).1
      simp at h4; omega
    have hkey : es[j].key = κ k := by
      have h4 := congrArg (fun l => l[j]?) hm
      simp [h3, hjl] at h4
      exact h4.1
    refine ⟨setWorld w b (.map (es.modify j fun x => { x with key := κ k, val := v }) clock), ?_, ⟨_, _, setWorld_at hl _, ?_, ?_, ?_, ?_⟩, setWorld_chg w b _⟩
    · have hbits := KK.bits k
      simp [Instr.mapUpdate, run_underlying ht, hgo, hc, Instr.findKey, run_underlying KK.under, h2, Instr.keyThatStays, hjl, hkey, hbits, hset]
    · apply List.ext_getElem?
      intro i
      rw [mput, h1]
      simp only [Option.isSome_some, if_true]
      have h6 := congrArg (fun l => l[i]?) hm
      simp only [List.getElem?_map, Array.getElem?_toList] at h6 ⊢
      simp only [Array.getElem?_modify]
      by_cases hij : j = i
      · subst hij
        rw [if_pos rfl, h3]
        simp [hjl]
      · rw [if_neg hij, h6]
        cases hmi : m[i]? with
        | none => rfl
        | some p =>
          have hne : k ≠ p.1 := by
            intro e
            have hn' := hn
            rw [List.nodup_iff_pairwise_ne, List.pairwise_map, List.pairwise_iff_getElem] at hn'
            have hil := (List.getElem?_eq_some_iff.1 hmi).1
            have hjl' := (List.getElem?_eq_some_iff.1 h3).1
            have ei := (List.getElem?_eq_some_iff.1 hmi).2
            have ej := (List.getElem?_eq_some_iff.1 h3).2
            rcases Nat.lt_or_gt_of_ne hij with hlt | hlt
            · have := hn' j i hjl' hil hlt; rw [ei, ej] at this; exact this e
            · have := hn' i j hil hjl' hlt; rw [ei, ej] at this; exact this e.symm
          simp [hne]
    · rw [mput, h1]
      simp only [Option.isSome_some, if_true, List.map_map]
      have : m.map ((fun x => x.1) ∘ fun p => if k = p.1 then (k, v) else p) = m.map (·.1) := by
        apply List.map_congr_left
        intro p _
        simp only [Function.comp]
        split
        · rename_i e; simp [e]
        · rfl
      rw [this]; exact hn
    · intro x hx
      obtain ⟨i, hi, rfl⟩ := List.mem_iff_getElem.1 hx
      have hi' : i < es.size := by simpa using hi
      simp only [Array.getElem_toList, Array.getElem_modify]
      split
      · exact hs1 es[i] (by simp)
      · exact hs1 es[i] (by simp)
    · have : (es.modify j fun x => { x with key := κ k, val := v }).toList.map (·.born) = es.toList.map (·.born) := by
        apply List.ext_getElem
        · simp
        · intro i h1 h2
          simp only [List.getElem_map, Array.getElem_toList, Array.getElem_modify]
          split <;> rfl
      rw [this]; exact hs2

theorem GMap.delete (h : GMap κ w b m) (KK : KeyKind P kt κ) (ht : P.underlying t = some (.map kt e)) (k : K) (at0 ty : TypeId) :
    ∃ w', (Builtin.delete_ #[t, at0] ty #[.map (some b), κ k]).run P w = .ok (.tuple #[]) w' ∧ GMap κ w' b (mdel m k) ∧ Chg (fun i => i = b) w w' := by
  have hl := h.lt
  obtain ⟨es, clock, hb, hm, hn, hs1, hs2⟩ := h
  have hc := KK.chk es.isEmpty 9999 k w
  have hgo : (getObj b).run P w = .ok (.map es clock) w := by simp [getObj, Sem.run, hb]
  have hset : ∀ o : Obj, (setObj b o).run P w = .ok () (setWorld w b o) := fun o => by simp [setObj, Sem.run, hb, setWorld]
  rcases findNow_spec' KK k es.toList m 0 hm with ⟨h1, h2⟩ | ⟨v0, j, h1, h2, h3⟩
  · refine ⟨setWorld w b (.map es clock), ?_, ⟨es, clock, setWorld_at hl _, ?_, ?_, hs1, hs2⟩, setWorld_chg w b _⟩
    · simp [Builtin.delete_, run_underlying ht, hgo, hc, Instr.findKey, run_underlying KK.under, h2, hset]
    all_goals
      have hd : mdel m k = m := by
        unfold mdel
        rw [List.filter_eq_self]
        intro p hp
        have := mget_none.1 h1
        simp only [List.mem_map, not_exists, not_and] at this
        simp; intro e; exact this p hp e.symm
      rw [hd]
      first | exact hm | exact hn
  · have hjm := (List.getElem?_eq_some_iff.1 h3).1
    have hjl : j < es.size := by
      have h4 := congrArg List.length hm
      simp at h4; omega
    have hd : mdel m k = m.eraseIdx j := by
      unfold mdel
      have ej := (List.getElem?_eq_some_iff.1 h3).2
      have hsplit : m = m.take j ++ (k, v0) :: m.drop (j + 1) := by
        rw [← ej, List.getElem_cons_drop, List.take_append_drop]
      have hn' := hn
      rw [hsplit] at hn'
      simp only [List.map_append, List.map_cons] at hn'
      obtain ⟨_, q2, q3⟩ := List.nodup_append.1 hn'
      rw [List.eraseIdx_eq_take_drop_succ]
      conv => lhs; rw [hsplit]
      rw [List.filter_append, List.filter_cons]
      simp only [decide_true, Bool.not_true, Bool.false_eq_true, if_false]
      congr 1
      · rw [List.filter_eq_self]
        intro p hp
        simp; intro e
        exact q3 p.1 (List.mem_map.2 ⟨p, hp, rfl⟩) k (by simp) e.symm
      · rw [List.filter_eq_self]
        intro p hp
        simp; intro e
        rw [List.nodup_cons] at q2
        exact q2.1 (List.mem_map.2 ⟨p, hp, e.symm⟩)
    have he : (es.eraseIdxIfInBounds j).toList = es.toList.eraseIdx j := by
      simp [Array.eraseIdxIfInBounds, hjl]
    refine ⟨setWorld w b (.map (es.eraseIdxIfInBounds j) clock), ?_, ⟨_, _, setWorld_at hl _, ?_, ?_, ?_, ?_⟩, setWorld_chg w b _⟩
    · simp [Builtin.delete_, run_underlying ht, hgo, hc, Instr.findKey, run_underlying KK.under, h2, hset]
    · rw [he, hd, mapErase, mapErase, hm]
    · rw [hd, mapErase]; exact hn.sublist (List.eraseIdx_sublist _ _)
    · rw [he]; intro x hx; exact hs1 x (List.mem_of_mem_eraseIdx hx)
    · rw [he, mapErase]; exact hs2.sublist (List.eraseIdx_sublist _ _)

variable {ops : Array Oper} {rest : List Oper} {o : Oper} {a : Act} {Q : Exit → Act → World → Prop}
theorem wp_update_g {C : Act → World → Prop} (mm x v : Operand) (hop : o.op = Op.mapUpdate t mm x v) (KK : KeyKind P kt κ) (ht : P.underlying t = some (.map kt e))
    (hm : a.eval mm = .map (some b)) (h : GMap κ w b m) (k : K) (val : Value) (hx : a.eval x = κ k) (hv : a.eval v = val)
    (hK : ∀ w', GMap κ w' b (mput m k val) → Chg (fun i => i = b) w w' → C (a.put o.dst undef) w') : o.wp P a w C Q := by
  obtain ⟨w', hrun, r1, r2⟩ := h.update KK ht k val
  unfold Oper.wp
  simp [execOp, hop, hm, hx, hv, hrun, Result.andThen]
  exact hK w' r1 r2
theorem wpList_update_g (hg : o.guard = none) (mm x v : Operand) (hop : o.op = Op.mapUpdate t mm x v) (KK : KeyKind P kt κ) (ht : P.underlying t = some (.map kt e))
    (hm : a.eval mm = .map (some b)) (h : GMap κ w b m) (k : K) (val : Value) (hx : a.eval x = κ k) (hv : a.eval v = val)
    (hK : ∀ w', GMap κ w' b (mput m k val) → Chg (fun i => i = b) w w' → wpList P ops Q rest (a.put o.dst undef) w') : wpList P ops Q (o :: rest) a w :=
  wpList_plain hg fun _ hK' => wp_update_g mm x v hop KK ht hm h k val hx hv fun w' h1 h2 => hK' _ _ (hK w' h1 h2)
theorem step_update_g {C : Act → World → Prop} {E : Prop} (hg : o.guard = none) (mm x v : Operand) (hop : o.op = Op.mapUpdate t mm x v) (KK : KeyKind P kt κ) (ht : P.underlying t = some (.map kt e))
    (hm : a.eval mm = .map (some b)) (h : GMap κ w b m) (k : K) (val : Value) (hx : a.eval x = κ k) (hv : a.eval v = val)
    (hK : ∀ w', GMap κ w' b (mput m k val) → Chg (fun i => i = b) w w' → C (a.put o.dst undef) w') :
    if Region.wanted o (yielded ops a.tmps) = true then o.wp P a w C Q else E := by
  have hw : Region.wanted o (yielded ops a.tmps) = true := by simp [Region.wanted, hg]
  rw [if_pos hw]
  exact wp_update_g mm x v hop KK ht hm h k val hx hv hK
theorem wp_delete_g {C : Act → World → Prop} {at0 : TypeId} (mm x : Operand) (hop : o.op = Op.call { callee := Callee.builtin Builtin.delete, args := #[mm, x], argTypes := #[t, at0] }) (KK : KeyKind P kt κ) (ht : P.underlying t = some (.map kt e))
    (hm : a.eval mm = .map (some b)) (h : GMap κ w b m) (k : K) (hx : a.eval x = κ k)
    (hK : ∀ w', GMap κ w' b (mdel m k) → Chg (fun i => i = b) w w' → C (a.put o.dst (.tuple #[])) w') : o.wp P a w C Q := by
  obtain ⟨w', hrun, r1, r2⟩ := h.delete KK ht k at0 o.type
  unfold Oper.wp
  simp [execOp, hop, resolve, invoke, builtin, hm, hx, hrun, Result.andThen]
  exact hK w' r1 r2
theorem wpList_delete_g {at0 : TypeId} (hg : o.guard = none) (mm x : Operand) (hop : o.op = Op.call { callee := Callee.builtin Builtin.delete, args := #[mm, x], argTypes := #[t, at0] }) (KK : KeyKind P kt κ) (ht : P.underlying t = some (.map kt e))
    (hm : a.eval mm = .map (some b)) (h : GMap κ w b m) (k : K) (hx : a.eval x = κ k)
    (hK : ∀ w', GMap κ w' b (mdel m k) → Chg (fun i => i = b) w w' → wpList P ops Q rest (a.put o.dst (.tuple #[])) w') : wpList P ops Q (o :: rest) a w :=
  wpList_plain hg fun _ hK' => wp_delete_g mm x hop KK ht hm h k hx fun w' h1 h2 => hK' _ _ (hK w' h1 h2)
theorem step_delete_g {C : Act → World → Prop} {E : Prop} {at0 : TypeId} (hg : o.guard = none) (mm x : Operand) (hop : o.op = Op.call { callee := Callee.builtin Builtin.delete, args := #[mm, x], argTypes := #[t, at0] }) (KK : KeyKind P kt κ) (ht : P.underlying t = some (.map kt e))
    (hm : a.eval mm = .map (some b)) (h : GMap κ w b m) (k : K) (hx : a.eval x = κ k)
    (hK : ∀ w', GMap κ w' b (mdel m k) → Chg (fun i => i = b) w w' → C (a.put o.dst (.tuple #[])) w') :
    if Region.wanted o (yielded ops a.tmps) = true then o.wp P a w C Q else E := by
  have hw : Region.wanted o (yielded ops a.tmps) = true := by simp [Region.wanted, hg]
  rw [if_pos hw]
  exact wp_delete_g mm x hop KK ht hm h k hx hK
end
end Go.Proofs.Ytllkeifldfmbkaa
