/- Layer 14: Put in one statement, for a law that keeps all that came; append with the place of the new row. -/
import Derived.Test.YtllkeifldfmbkaaOrdG
import Derived.Maps.AppendAt
namespace Go.Proofs.Ytllkeifldfmbkaa
open Go.RowKit

theorem wpList_append_at {P : Program} (w : World) {ops : Array Oper} {rest : List Oper} {o : Oper} {a : Act} {Q : Exit → Act → World → Prop} (hgd : o.guard = none) (s x : Operand) (t : TypeId)
    (ho : o.op = .call { callee := .builtin .append, args := #[s, x], argTypes := #[t, t] })
    (base : Nat) (e : TypeId) (i : TypeInfo) (z : Value) (size bytes : Nat) (ht : P.underlying t = some (.slice e)) (hi : P.info? e = some i) (hz : i.zero = some z)
    (hsize : i.size = size) (hby : i.bytes = bytes) (hzs : z.cells.size = size) (hsz : 0 < size)
    (v : Value) (n : Nat) (xs : List Value) (hs : a.eval s = v) (hown : w.ownsRow base e size v n xs)
    (ad : Addr) (m c : Nat) (news : List Value) (hx : a.eval x = .slice (some ad) m c) (hl : news.length = m * size) (hnews : ∀ j u, news[j]? = some u → w.cell? (ad.add j) = some u) (h1 : ∀ u ∈ news, u.oneCell' = true)
    (h63 : n + m ≤ maxLen) (hbytes : (n + m) * bytes ≤ 140737488355328) (hbase : base ≤ w.heap.size)
    (h : ∀ v' w', w'.ownsRow base e size v' (n + m) (xs ++ news) → w.grownBy w' v.ownBlock → (v'.ownBlock = v.ownBlock ∨ v'.ownBlock = some w.heap.size) → wpList P ops Q rest (a.put o.dst v') w') : wpList P ops Q (o :: rest) a w := by
  obtain ⟨v', w', hrun, h2, h3, _, h5⟩ := run_append_own_at (P := P) w base t o.type e i z size bytes ht hi hz hsize hby hzs hsz v n xs hown ad m c news hl hnews h1 h63 hbytes hbase
  refine wpList_plain hgd fun K hK => ?_
  unfold Oper.wp execOp
  simp only [ho, resolve, invoke, builtin, Sem.run_bind, Sem.run_pure, Result.andThen_ok, List.map_toArray, List.map_cons, List.map_nil, hs, hx, hrun]
  exact hK _ _ (h v' w' h2 h3 h5)

theorem new_cells (w : World) (t : TypeId) (cs : List Value) : ∀ j u, cs[j]? = some u → (w.alloc (.cells cs.toArray t)).cell? ((⟨w.heap.size, 0, none⟩ : Addr).add j) = some u := by
  intro j u hu
  rw [Addr.add_lit, (Blk.new w t cs).cell, Nat.zero_add]; exact hu

/-- Put, told with what is in order then (out) and what is held then (m'). -/
def PutSum (X : Nat → Prop) (w : World) (g mb : Nat) (org hv : Int) (C : Tx → Prop) (e : Ending) (w' : World) : Prop :=
  ∃ (kind : Int) (out : List (Tx × Value)) (m' : Held) (A : Option Addr) (c : Nat), e = .returned (.tuple #[.int .i64 kind, .slice A out.length c]) ∧ ((kind == 2) = true ↔ 0 < out.length) ∧
    (∀ (i : Nat) x, out[i]? = some x → x.1.s = hv + 1 + (i : Int) ∧ x.1.o = org ∧ C x.1) ∧ hv + (out.length : Int) ≤ 4611686018427387903 ∧ Bufr X w' g mb org (hv + (out.length : Int)) m' ∧ HeldOk org (hv + (out.length : Int) + 1) m' ∧
    m'.length ≤ 8 ∧ (∀ p ∈ m', C p.2.1) ∧ Txs w' (fun _ => True) (.slice A out.length c) out ∧ Chg (fun b => b = g ∨ b = mb) w w' ∧ out.length ≤ 9

theorem txs_of_own {w : World} {base : Nat} {v : Value} {out : List (Tx × Value)} (h : w.ownsRow base 34 6 v out.length (out.flatMap (fun x => txCells x.1 x.2))) (hw : ∀ x ∈ out, Ws w (fun _ => True) x.2 x.1.ws) :
    ∃ A c, v = .slice A out.length c ∧ Txs w (fun _ => True) (.slice A out.length c) out := by
  rcases h.2 with ⟨rfl, h0⟩ | ⟨g, cap, cur, rfl, _, _, hnc, hcm, _⟩
  · have : out = [] := List.eq_nil_of_length_eq_zero h0
    subst this
    exact ⟨none, 0, rfl, none, 0, rfl, Nat.le_refl _, by simp, Rd.nil, hw⟩
  · exact ⟨_, cap, rfl, _, cap, rfl, hnc, hcm, Rd.of_own h (fun _ _ _ => trivial), hw⟩

theorem put_sum {X : Nat → Prop} (g mb : Nat) (org hv : Int) (m : Held) (t : Tx) (S : Nat → Prop) (v : Value) (w : World) (C : Tx → Prop) (h : Bufr X w g mb org hv m) (hw : Ws w S v t.ws) (h0 : 0 ≤ hv) (h1 : hv ≤ 4611686018427387903) (hl : m.length ≤ 8)
    (hX : ∀ b, X b → b < w.heap.size) (hok : HeldOk org (hv + 1) m) (hC : ∀ p ∈ m, C p.2.1) (ht : C t) :
    Calls Try.prog 11 #[.pointer (some ⟨g, 0, none⟩), txVal t v] w (PutSum X w g mb org hv C) := by
  refine (put_any g mb org hv m t S v w h hw h0 h1 hl hX).mono ?_
  rintro e w' ⟨p1, p3, p2⟩
  have hnil : Txs w' (fun _ => True) (.slice none 0 0) [] := ⟨none, 0, rfl, Nat.le_refl _, by simp, Rd.nil, by simp⟩
  have hcase : (putM org hv m t = 0 ∨ putM org hv m t = 1 ∨ putM org hv m t = 4) ∨ putM org hv m t = 3 ∨ putM org hv m t = 2 := by
    unfold putM
    repeat' (split; · simp)
    simp
  rcases hcase with hk | hk | hk
  · obtain ⟨rfl, hb⟩ := p1 hk
    refine ⟨putM org hv m t, [], m, none, 0, rfl, ?_, by simp, by simpa using h1, by simpa using h.next hb, by simpa using hok, hl, hC, hnil, Chg.of_below hb, by simp⟩
    rcases hk with hk | hk | hk <;> rw [hk] <;> simp
  · obtain ⟨v', rfl, hB, hK⟩ := p3 hk
    have hc : check t = 0 ∧ t.o = org ∧ hv + 1 < t.s ∧ m.length ≠ 8 := by
      unfold putM at hk
      split at hk
      · cases hk
      rename_i q1
      split at hk
      · cases hk
      rename_i q2
      split at hk
      · cases hk
      rename_i q3
      split at hk
      · rename_i q4
        have a1 : check t = 0 := Classical.byContradiction (fun e => q1 (.inl e))
        have a2 : t.o = org := Classical.byContradiction (fun e => q1 (.inr e))
        have a3 : ¬ t.s ≤ hv := fun e => q2 (.inl e)
        exact ⟨a1, a2, by omega, fun e => q3 ⟨q4, e⟩⟩
      · cases hk
    have hck := check_ok hc.1
    refine ⟨3, [], m ++ [(t.s, t, v')], none, 0, rfl, by simp, by simp, by simpa using h1, by simpa using hB, ?_, by simp; omega, ?_, hnil, hK, by simp⟩
    · intro p hp
      rcases List.mem_append.1 hp with hp | hp
      · simpa using hok p hp
      · simp only [List.mem_singleton] at hp
        subst hp
        exact ⟨rfl, hc.2.1, by simpa using hc.2.2.1, hck.2.2.2.1⟩
    · intro p hp
      rcases List.mem_append.1 hp with hp | hp
      · exact hC p hp
      · simp only [List.mem_singleton] at hp
        subst hp; exact ht
  · obtain ⟨v', vv, rfl, hB, hO, hW, hK⟩ := p2 hk
    have hc : check t = 0 ∧ t.o = org ∧ t.s = hv + 1 := by
      unfold putM at hk
      split at hk
      · cases hk
      rename_i q1
      split at hk
      · cases hk
      split at hk
      · cases hk
      split at hk
      · cases hk
      · rename_i q4
        exact ⟨Classical.byContradiction (fun e => q1 (.inl e)), Classical.byContradiction (fun e => q1 (.inr e)), Classical.byContradiction q4⟩
    have hck := check_ok hc.1
    have hok' : HeldOk org hv (m ++ [(t.s, t, v')]) := by
      intro p hp
      rcases List.mem_append.1 hp with hp | hp
      · obtain ⟨a1, a2, a3, a4⟩ := hok p hp
        exact ⟨a1, a2, by omega, a4⟩
      · simp only [List.mem_singleton] at hp
        subst hp
        exact ⟨rfl, hc.2.1, by simp only []; omega, hck.2.2.2.1⟩
    have hC' : ∀ p ∈ m ++ [(t.s, t, v')], C p.2.1 := by
      intro p hp
      rcases List.mem_append.1 hp with hp | hp
      · exact hC p hp
      · simp only [List.mem_singleton] at hp
        subst hp; exact ht
    obtain ⟨r1, r2, r3, r4, r5⟩ := row_spec org (m.length + 1) hv (m ++ [(t.s, t, v')]) (by simp) hok'
    have hne : (rowM (m.length + 1) hv (m ++ [(t.s, t, v')])).1.length ≠ 0 := by
      have hgs : ∃ x, hget (m ++ [(t.s, t, v')]) (hv + 1) = some x := by
        cases hg : hget (m ++ [(t.s, t, v')]) (hv + 1) with
        | some x => exact ⟨x, rfl⟩
        | none => exact absurd hc.2.2 (hget_none hg (t.s, t, v') (by simp))
      obtain ⟨x, hx⟩ := hgs
      exact row_some hx
    generalize hr : rowM (m.length + 1) hv (m ++ [(t.s, t, v')]) = r at *
    obtain ⟨A, c, rfl, hT⟩ := txs_of_own hO (fun x hx => (hW x hx).more (fun _ _ _ => trivial))
    have hlast : hv + (r.1.length : Int) ≤ 4611686018427387903 := by
      obtain ⟨x, hx⟩ : ∃ x, r.1[r.1.length - 1]? = some x := ⟨_, List.getElem?_eq_getElem (by omega)⟩
      obtain ⟨q1, p, hp, rfl⟩ := r1 _ x hx
      have := hok' p hp
      have h3 := this.1
      have h4 := this.2.2.2
      omega
    refine ⟨2, r.1, r.2.2, A, c, rfl, by simp; omega, ?_, hlast, by rw [← r2]; exact hB, by rw [← r2]; exact r4, by simp at r5; omega, fun p hp => hC' p (r3 p hp), hT, hK, by simp at r5; omega⟩
    intro i x hx
    obtain ⟨q1, p, hp, rfl⟩ := r1 i x hx
    exact ⟨q1, (hok' p hp).2.1, hC' p hp⟩
end Go.Proofs.Ytllkeifldfmbkaa
