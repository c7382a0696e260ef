/- Layer 12: Push and Pop of the heap's methods. -/
import Derived.Test.YtllkeifldfmbkaaDueC
import Derived.Maps.AppendAt
import Derived.Outline
namespace Go.Proofs.Ytllkeifldfmbkaa
open Go.RowKit

theorem wpList_append_at2 {P : Program} (w : World) {ops : Array Oper} {rest : List Oper} {o : Oper} {a : Act} {Q : Exit → Act → World → Prop} (hgd : o.guard = none) (s x : Operand) (t : TypeId)
    (ho : o.op = .call { callee := .builtin .append, args := #[s, x], argTypes := #[t, t] })
    (base : Nat) (e : TypeId) (i : TypeInfo) (z : Value) (size bytes : Nat) (ht : P.underlying t = some (.slice e)) (hi : P.info? e = some i) (hz : i.zero = some z)
    (hsize : i.size = size) (hby : i.bytes = bytes) (hzs : z.cells.size = size) (hsz : 0 < size)
    (v : Value) (n : Nat) (xs : List Value) (hs : a.eval s = v) (hown : w.ownsRow base e size v n xs)
    (ad : Addr) (m c : Nat) (news : List Value) (hx : a.eval x = .slice (some ad) m c) (hl : news.length = m * size) (hnews : ∀ j u, news[j]? = some u → w.cell? (ad.add j) = some u) (h1 : ∀ u ∈ news, u.oneCell' = true)
    (h63 : n + m ≤ maxLen) (hbytes : (n + m) * bytes ≤ 140737488355328) (hbase : base ≤ w.heap.size)
    (h : ∀ v' w', w'.ownsRow base e size v' (n + m) (xs ++ news) → w.grownBy w' v.ownBlock → (v'.ownBlock = v.ownBlock ∨ v'.ownBlock = some w.heap.size) → wpList P ops Q rest (a.put o.dst v') w') : wpList P ops Q (o :: rest) a w := by
  obtain ⟨v', w', hrun, h2, h3, _, h5⟩ := run_append_own_at (P := P) w base t o.type e i z size bytes ht hi hz hsize hby hzs hsz v n xs hown ad m c news hl hnews h1 h63 hbytes hbase
  refine wpList_plain hgd fun K hK => ?_
  unfold Oper.wp execOp
  simp only [ho, resolve, invoke, builtin, Sem.run_bind, Sem.run_pure, Result.andThen_ok, List.map_toArray, List.map_cons, List.map_nil, hs, hx, hrun]
  exact hK _ _ (h v' w' h2 h3 h5)

theorem new_cells2 (w : World) (t : TypeId) (cs : List Value) : ∀ j u, cs[j]? = some u → (w.alloc (.cells cs.toArray t)).cell? ((⟨w.heap.size, 0, none⟩ : Addr).add j) = some u := by
  intro j u hu
  rw [Addr.add_lit, (Blk.new w t cs).cell, Nat.zero_add]; exact hu

theorem own_form {w : World} {base : Nat} {e : TypeId} {size n : Nat} {v : Value} {xs : List Value} (h : w.ownsRow base e size v n xs) : ∃ A c, v = .slice A n c := by
  rcases h.2 with ⟨rfl, h0⟩ | ⟨g, cap, cur, rfl, _⟩
  · exact ⟨none, 0, by rw [h0]⟩
  · exact ⟨_, cap, rfl⟩
theorem info_ptr : (Try.prog.info? 99).map (fun i => (i.zero, i.size, i.bytes)) = some (some (.pointer none), 1, 8) := by kernel_rfl
/-- A list's own block, and its heap. -/
structure LstM (w : World) (lb : Nat) (c1 c2 c3 av : Value) (hs : List Nd) : Prop where
  blk : Blk w lb 98 [av, c1, c2, c3]
  heap : HeapM w av hs
theorem LstM.chg {w w' : World} {lb : Nat} {c1 c2 c3 av : Value} {hs : List Nd} {F : Nat → Prop} (h : LstM w lb c1 c2 c3 av hs) (k : Chg F w w') (hF : ∀ b, b = lb ∨ av.ownBlock = some b ∨ b ∈ hs.map (·.b) → ¬ F b) : LstM w' lb c1 c2 c3 av hs :=
  ⟨h.blk.chg k (hF _ (.inl rfl)), h.heap.chg k (fun b hb => hF b (.inr hb))⟩
theorem LstM.next {w w' : World} {lb : Nat} {c1 c2 c3 av : Value} {hs : List Nd} (h : LstM w lb c1 c2 c3 av hs) (k : Below w.heap.size w w') : LstM w' lb c1 c2 c3 av hs := ⟨h.blk.next k, h.heap.next k⟩
theorem LstM.notin {w : World} {lb : Nat} {c1 c2 c3 av : Value} {hs : List Nd} (h : LstM w lb c1 c2 c3 av hs) : av.ownBlock ≠ some lb ∧ lb ∉ hs.map (·.b) := by
  refine ⟨own_blk_ne h.heap.arr h.blk (by decide), fun hm => ?_⟩
  obtain ⟨x, hx, e⟩ := List.mem_map.1 hm
  obtain ⟨i, hi⟩ := List.getElem?_of_mem hx
  have := h.heap.node i x hi
  rw [e] at this
  exact Blk.ne this h.blk (by decide) rfl
theorem HeapM.av_form {w : World} {av : Value} {hs : List Nd} (h : HeapM w av hs) : ∃ A c, av = .slice A hs.length c ∧ hs.length ≤ c ∧ c ≤ maxLen := by
  rcases h.arr.2 with ⟨rfl, h0⟩ | ⟨g, cap, cur, rfl, _, _, h1, h2, _⟩
  · exact ⟨none, 0, by rw [h0], by omega, by simp⟩
  · exact ⟨_, cap, rfl, h1, h2⟩

def PushP (w : World) (lb : Nat) (c1 c2 c3 av : Value) (hs : List Nd) (x : Nd) (e : Ending) (w' : World) : Prop :=
  e = .returned (.tuple #[]) ∧ ∃ av', LstM w' lb c1 c2 c3 av' (hs ++ [x]) ∧ Chg (fun b => b = lb ∨ b = x.b ∨ av.ownBlock = some b) w w' ∧ (av'.ownBlock = av.ownBlock ∨ ∃ g, av'.ownBlock = some g ∧ w.heap.size ≤ g)

theorem push_rel {w w1 w2 w5 w6 : World} {lb : Nat} {c1 c2 c3 av av' : Value} {hs : List Nd} {x : Nd} {p : Int} (h : LstM w lb c1 c2 c3 av hs) (hx : Blk w x.b 101 (ndCells x p)) (hn : x.b ∉ hs.map (·.b))
    (e1 : w1 = w.setCell ⟨x.b, 3, none⟩ (.int .i64 (hs.length : Int))) (e2 : w2 = w1.alloc (.cells #[ptr x] 99))
    (O5 : w5.ownsRow 0 99 1 av' (hs.length + 1) (hs.map ptr ++ [ptr x])) (hg : w2.grownBy w5 av.ownBlock) (hloc : av'.ownBlock = av.ownBlock ∨ av'.ownBlock = some w2.heap.size) (e6 : w6 = w5.setCell ⟨lb, 0, none⟩ av') :
    Blk w5 lb 98 [av, c1, c2, c3] ∧ PushP w lb c1 c2 c3 av hs x (.returned (.tuple #[])) w6 := by
  obtain ⟨n1, n2⟩ := h.notin
  have hxl : x.b ≠ lb := Blk.ne hx h.blk (by decide)
  have hxa : av.ownBlock ≠ some x.b := own_blk_ne h.heap.arr hx (by decide)
  have k1 : Chg (fun b => b = x.b) w w1 := by rw [e1]; exact Chg.setCell (F := fun b => b = x.b) w (p := ⟨x.b, 3, none⟩) rfl _
  have k2 : Chg (fun b => b = x.b) w w2 := by rw [e2]; exact k1.new _
  have k5 : Chg (fun b => b = x.b ∨ av.ownBlock = some b) w w5 := (k2.mono (fun _ h => .inl h)).trans (Chg.grown hg (fun k hk => .inr hk))
  have B5 : Blk w5 lb 98 [av, c1, c2, c3] := h.blk.chg k5 (fun e => by rcases e with e | e; exact hxl e.symm; exact n1 e)
  have k6 : Chg (fun b => b = lb ∨ b = x.b ∨ av.ownBlock = some b) w w6 := by
    rw [e6]; exact (k5.mono (fun _ h => .inr h)).set (p := ⟨lb, 0, none⟩) (.inl rfl) _
  have x1 : Blk w1 x.b 101 (ndCells x (hs.length : Int)) := by rw [e1]; exact hx.set 3 _
  have x2 : Blk w2 x.b 101 (ndCells x (hs.length : Int)) := by rw [e2]; exact x1.alloc _
  have x5 : Blk w5 x.b 101 (ndCells x (hs.length : Int)) := x2.chg (Chg.grown (F := fun b => av.ownBlock = some b) hg (fun k hk => hk)) hxa
  have x6 : Blk w6 x.b 101 (ndCells x (hs.length : Int)) := by rw [e6]; exact x5.far (p := ⟨lb, 0, none⟩) hxl _
  have n5 : av'.ownBlock ≠ some lb := own_blk_ne O5 B5 (by decide)
  have hsz : w2.heap.size = w.heap.size + 1 := by rw [e2, e1]; simp
  refine ⟨B5, rfl, av', ⟨?_, ?_, fun i z hz => ?_, ?_⟩, k6, ?_⟩
  · rw [e6]; exact B5.set 0 _
  · rw [e6]
    have := ownsRow_setCell_other O5 (a := ⟨lb, 0, none⟩) n5 av'
    simpa using this
  · by_cases hi : i < hs.length
    · rw [List.getElem?_append_left hi] at hz
      have h1 := h.heap.node i z hz
      have hzx : z.b ≠ x.b := fun e => hn (by rw [← e]; exact List.mem_map.2 ⟨z, List.mem_of_getElem? hz, rfl⟩)
      have hzl : z.b ≠ lb := fun e => n2 (by rw [← e]; exact List.mem_map.2 ⟨z, List.mem_of_getElem? hz, rfl⟩)
      exact h1.chg k6 (fun e => by rcases e with e | e | e; exact hzl e; exact hzx e; exact h.heap.far hz e)
    · have hl := (List.getElem?_eq_some_iff.1 hz).1
      simp at hl
      have : i = hs.length := by omega
      subst this
      simp at hz
      subst hz; exact x6
  · rw [List.map_append]
    exact List.nodup_append.2 ⟨h.heap.nodup, by simp, fun a ha b hb e => by simp at hb; subst hb; subst e; exact hn ha⟩
  · rcases hloc with e | e
    · exact .inl e
    · exact .inr ⟨_, e, by omega⟩

set_option maxRecDepth 100000 in
set_option maxHeartbeats 1000000 in
theorem npush_any (lb : Nat) (c1 c2 c3 av : Value) (hs : List Nd) (x : Nd) (p : Int) (w : World) (h : LstM w lb c1 c2 c3 av hs) (hx : Blk w x.b 101 (ndCells x p)) (hn : x.b ∉ hs.map (·.b)) (hl : hs.length ≤ 100000) :
    Calls Try.prog 119 #[.pointer (some ⟨lb, 0, none⟩), .iface 99 (ptr x)] w (PushP w lb c1 c2 c3 av hs x) := by
  obtain ⟨i0, hi0, hz0, hz1, hz2⟩ := info_parts info_ptr
  obtain ⟨A, c, hav, hc1, hc2⟩ := h.heap.av_form
  obtain ⟨n1, n2⟩ := h.notin
  have hxl : x.b ≠ lb := Blk.ne hx h.blk (by decide)
  have hxa : av.ownBlock ≠ some x.b := own_blk_ne h.heap.arr hx (by decide)
  have l0 : w.cell? ⟨lb, 0, none⟩ = some av := h.blk.cell 0
  have x3 : w.cell? ⟨x.b, 3, none⟩ = some (.int .i64 p) := hx.cell 3
  have fx : w.frozen? ⟨x.b, 3, none⟩ = false := hx.free 3
  have hP := fun w1 w2 w5 w6 av' => push_rel (w1 := w1) (w2 := w2) (w5 := w5) (w6 := w6) (av' := av') h hx hn
  have harr : ∀ w1, w1 = w.setCell ⟨x.b, 3, none⟩ (.int .i64 (hs.length : Int)) → (w1.alloc (.cells #[ptr x] 99)).ownsRow 0 99 1 av hs.length (hs.map ptr) := by
    intro w1 e1
    rw [e1]
    exact (ownsRow_setCell_other h.heap.arr (a := ⟨x.b, 3, none⟩) hxa _).alloc _
  subst hav
  obtain ⟨xb, xk, xa, xs⟩ := x
  simp only [ptr] at *
  replace hP := hid hP
  replace harr := hid harr
  have hta : ∀ v W, (Instr.typeAssert (.iface 99 v) 20 99 false).run Try.prog W = .ok v W := fun _ _ => by kernel_rfl
  clear h hx hn n1 n2 hxa
  go_enter Try.func119, Try.ntmps119
  have hnew : ∀ j u, [Value.pointer (some ⟨xb, 0, none⟩)][j]? = some u → ((w.setCell ⟨xb, 3, none⟩ (.int .i64 (hs.length : Int))).alloc (.cells #[Value.pointer (some ⟨xb, 0, none⟩)] 99)).cell? ((⟨w.heap.size, 0, none⟩ : Addr).add j) = some u := by
    have := new_cells2 (w.setCell ⟨xb, 3, none⟩ (.int .i64 (hs.length : Int))) 99 [Value.pointer (some ⟨xb, 0, none⟩)]
    rw [World.size_setCell] at this
    exact this
  have hone : ∀ u ∈ [Value.pointer (some ⟨xb, 0, none⟩)], u.oneCell' = true := by simp [Value.oneCell']
  replace hnew := hid hnew
  replace hone := hid hone
  go_wp2_with (at_builtin; (refine wpList_append_at2 _ rfl (.tmp 17) (.tmp 19) _ rfl 0 99 i0 _ 1 8 Try.underlying96 hi0 hz0 hz1 hz2 rfl (by omega) (.slice A hs.length c) hs.length (hs.map ptr) rfl (harr.out _ rfl) ⟨w.heap.size, 0, none⟩ 1 1 [Value.pointer (some ⟨xb, 0, none⟩)] rfl rfl hnew.out hone.out (by simp only [maxLen]; omega) (by omega) (by omega) ?_); intro av' w5 O5 hg5 hloc; obtain ⟨gA, gc, rfl⟩ := own_form O5; obtain ⟨B5, hfin⟩ := hP.out _ _ w5 _ _ rfl rfl O5 hg5 hloc rfl; have d0 := B5.cell 0; have f0 := B5.free 0; replace hfin := hid hfin; clear B5 O5 hg5 hloc)
  go_returns
  exact hfin.out

theorem own_pop {w : World} {base : Nat} {e : TypeId} {g n cap : Nat} {xs : List Value} {u : Value} (h : w.ownsRow base e 1 (.slice (some ⟨g, 0, none⟩) (n + 1) cap) (n + 1) (xs ++ [u])) : w.ownsRow base e 1 (.slice (some ⟨g, 0, none⟩) n cap) n xs := by
  have h1 := h.1
  rcases h.2 with ⟨h', _⟩ | ⟨g', cap', cur, h', hb, hg, hnc, hcm, hcs, htake⟩
  · simp at h'
  · simp only [Value.slice.injEq, Option.some.injEq, Addr.mk.injEq, and_true, true_and] at h'
    obtain ⟨rfl, rfl⟩ := h'
    have hl : xs.length = n := by simpa using h1
    refine ⟨by omega, .inr ⟨g, cap, cur, rfl, hb, hg, by omega, hcm, hcs, ?_⟩⟩
    have := congrArg (List.take n) htake
    rw [List.take_take] at this
    rw [Nat.mul_one, show min n (n + 1) = n by omega] at this
    rw [Nat.mul_one, this, ← hl, List.take_left]
def PopP (w : World) (lb : Nat) (c1 c2 c3 av : Value) (hs : List Nd) (x : Nd) (e : Ending) (w' : World) : Prop :=
  e = .returned (.iface 99 (ptr x)) ∧ ∃ av', LstM w' lb c1 c2 c3 av' hs ∧ Chg (fun b => b = lb) w w' ∧ av'.ownBlock = av.ownBlock ∧ ∃ p : Int, Blk w' x.b 101 (ndCells x p)
set_option maxRecDepth 100000 in
set_option maxHeartbeats 1000000 in
theorem npop_any (lb : Nat) (c1 c2 c3 av : Value) (hs : List Nd) (x : Nd) (w : World) (h : LstM w lb c1 c2 c3 av (hs ++ [x])) (hl : hs.length ≤ 100000) :
    Calls Try.prog 118 #[.pointer (some ⟨lb, 0, none⟩)] w (PopP w lb c1 c2 c3 av hs x) := by
  obtain ⟨g, cap, hav, hc1, hc2, hcell⟩ := h.heap.form (k := hs.length) (by simp)
  have cx : w.cell? ⟨g, hs.length, none⟩ = some (.pointer (some ⟨x.b, 0, none⟩)) := hcell hs.length x (by simp)
  obtain ⟨n1, n2⟩ := h.notin
  subst hav
  have hfin : PopP w lb c1 c2 c3 (.slice (some ⟨g, 0, none⟩) (hs ++ [x]).length cap) hs x (.returned (.iface 99 (ptr x))) (w.setCell ⟨lb, 0, none⟩ (.slice (some ⟨g, 0, none⟩) hs.length cap)) := by
    refine ⟨rfl, .slice (some ⟨g, 0, none⟩) hs.length cap, ⟨h.blk.set 0 _, ?_, fun i z hz => ?_, ?_⟩, Chg.setCell (F := fun b => b = lb) w (p := ⟨lb, 0, none⟩) rfl _, rfl, _, (h.heap.node hs.length x (by simp)).far (p := ⟨lb, 0, none⟩) (fun e => n2 (by rw [List.map_append]; exact List.mem_append_right _ (by simp [e]))) _⟩
    · have h1 := h.heap.arr
      rw [List.map_append, List.length_append] at h1
      exact ownsRow_setCell_other (own_pop h1) (a := ⟨lb, 0, none⟩) n1 _
    · have hi := (List.getElem?_eq_some_iff.1 hz).1
      have h1 := h.heap.node i z (by rw [List.getElem?_append_left hi]; exact hz)
      exact h1.far (p := ⟨lb, 0, none⟩) (fun e => n2 (by rw [List.map_append]; exact List.mem_append_left _ (List.mem_map.2 ⟨z, List.mem_of_getElem? hz, e⟩))) _
    · have := h.heap.nodup
      rw [List.map_append] at this
      exact (List.nodup_append.1 this).1
  have l0 : w.cell? ⟨lb, 0, none⟩ = some (.slice (some ⟨g, 0, none⟩) (hs.length + 1) cap) := by have := h.blk.cell 0; simpa using this
  have f0 := h.blk.free 0
  have hlen : (hs ++ [x]).length = hs.length + 1 := by simp
  rw [hlen] at hfin hc1 ⊢
  replace hfin := hid hfin
  have i0 : (0 : Int) ≤ (hs.length : Int) := by omega
  have i1 : (hs.length : Int) < ((hs.length + 1 : Nat) : Int) := by omega
  have i2 : hs.length ≤ cap := by omega
  unfold maxLen at hc2
  clear h hcell n1 n2 hlen
  obtain ⟨xb, xk, xa, xs⟩ := x
  simp only [] at cx
  go_enter Try.func118, Try.ntmps118
  go_wp2
  go_returns
  exact hfin.out
end Go.Proofs.Ytllkeifldfmbkaa
