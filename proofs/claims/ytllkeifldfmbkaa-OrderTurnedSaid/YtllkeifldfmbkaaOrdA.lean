/- Layer 14, the small functions: Clone of writes, own, New, Have, Back. -/
import Derived.Test.YtllkeifldfmbkaaTxnB
import Derived.Test.YtllkeifldfmbkaaMap
import Derived.Deep.RegionHeld3
import Derived.Deep.DeepCutAuto
import Derived.WalkSpells
import Derived.WalkLawsBesides
import Derived.Deep.AppendLies
import Derived.RegionTactic
import Derived.OwnWalk
namespace Go.Proofs.Ytllkeifldfmbkaa
open Go.RowKit

theorem info88 : (Try.prog.info? 88).map (fun i => (i.zero, i.size, i.bytes)) = some (some (.agg #[.string ByteArray.empty, .string ByteArray.empty, .bool false]), 3, 40) := by kernel_rfl
theorem info34 : (Try.prog.info? 34).map (fun i => (i.zero, i.size, i.bytes)) = some (some (.agg #[.int .i64 0, .int .i64 0, .int .i64 0, .int .i64 0, .int .i64 0, .slice none 0 0]), 6, 64) := by kernel_rfl

/-- append of a slice that reads as xs (nil or not) to a row of the call's own, or to nil or an empty one. -/
theorem run_append_rd {P : Program} (w : World) (base : Nat) (t ty e : TypeId) (i : TypeInfo) (z : Value) (size bytes : Nat) (ht : P.underlying t = some (.slice e)) (hi : P.info? e = some i) (hz : i.zero = some z)
    (hsize : i.size = size) (hby : i.bytes = bytes) (hzs : z.cells.size = size) (hsz : 0 < size)
    (v : Value) (n : Nat) (xs : List Value) (hown : w.ownsRow base e size v n xs)
    (S : Nat → Prop) (A : Option Addr) (m c : Nat) (news : List Value) (hr : Rd w S size A m news) (h1 : ∀ u ∈ news, u.oneCell' = true)
    (h63 : n + m ≤ maxLen) (hbytes : (n + m) * bytes ≤ 140737488355328) (hbase : base ≤ w.heap.size) :
    ∃ v' w', (Builtin.append_ #[t, t] ty #[v, .slice A m c]).run P w = .ok v' w' ∧ w'.ownsRow base e size v' (n + m) (xs ++ news) ∧ w.grownBy w' v.ownBlock := by
  cases A with
  | none =>
    have hm : m = 0 := by
      rcases Nat.eq_zero_or_pos m with h0 | h0
      · exact h0
      · obtain ⟨b, o, h, _⟩ := hr.2 h0; cases h
    subst hm
    have hn : news = [] := List.eq_nil_of_length_eq_zero (by simpa using hr.1)
    subst hn
    refine ⟨v, w, ?_, by simpa using hown, ⟨rfl, rfl, rfl, Nat.le_refl _, fun _ _ _ => rfl⟩⟩
    rcases hown.2 with ⟨rfl, rfl⟩ | ⟨g, cap, cur, rfl, _, _, hnc, _⟩
    · simp [Builtin.append_, run_underlying ht, sizeOf, typeInfo, hi, Builtin.lenOf, Builtin.firstCells]
    · simp [Builtin.append_, run_underlying ht, sizeOf, typeInfo, hi, Builtin.lenOf, Builtin.firstCells, hnc, storeCells]
  | some ad =>
    have hcells : ∀ j u, news[j]? = some u → w.cell? (ad.add j) = some u := by
      intro j u hu
      rcases Nat.eq_zero_or_pos m with h0 | h0
      · subst h0
        have hn : news = [] := List.eq_nil_of_length_eq_zero (by simpa using hr.1)
        subst hn; simp at hu
      · obtain ⟨b, o, h, _, _, hc⟩ := hr.2 h0
        injection h with h
        subst h
        rw [Addr.add_lit]
        exact hc j u hu
    obtain ⟨v', w', hrun, h2, h3, _⟩ := run_append_own (P := P) w base t ty e i z size bytes ht hi hz hsize hby hzs hsz v n xs hown ad m c news hr.1 hcells h1 h63 hbytes hbase
    exact ⟨v', w', hrun, h2, h3⟩

theorem wpList_append_rd {P : Program} (w : World) {ops : Array Oper} {rest : List Oper} {o : Oper} {a : Act} {Q : Exit → Act → World → Prop} (hgd : o.guard = none) (s x : Operand) (t : TypeId)
    (ho : o.op = .call { callee := .builtin .append, args := #[s, x], argTypes := #[t, t] })
    (base : Nat) (e : TypeId) (i : TypeInfo) (z : Value) (size bytes : Nat) (ht : P.underlying t = some (.slice e)) (hi : P.info? e = some i) (hz : i.zero = some z)
    (hsize : i.size = size) (hby : i.bytes = bytes) (hzs : z.cells.size = size) (hsz : 0 < size)
    (v : Value) (n : Nat) (xs : List Value) (hs : a.eval s = v) (hown : w.ownsRow base e size v n xs)
    (S : Nat → Prop) (A : Option Addr) (m c : Nat) (news : List Value) (hx : a.eval x = .slice A m c) (hr : Rd w S size A m news) (h1 : ∀ u ∈ news, u.oneCell' = true)
    (h63 : n + m ≤ maxLen) (hbytes : (n + m) * bytes ≤ 140737488355328) (hbase : base ≤ w.heap.size)
    (h : ∀ v' w', w'.ownsRow base e size v' (n + m) (xs ++ news) → w.grownBy w' v.ownBlock → wpList P ops Q rest (a.put o.dst v') w') : wpList P ops Q (o :: rest) a w := by
  obtain ⟨v', w', hrun, h2, h3⟩ := run_append_rd (P := P) w base t o.type e i z size bytes ht hi hz hsize hby hzs hsz v n xs hown S A m c news hr h1 h63 hbytes hbase
  refine wpList_plain hgd fun K hK => ?_
  unfold Oper.wp execOp
  simp only [ho, resolve, invoke, builtin, Sem.run_bind, Sem.run_pure, Result.andThen_ok, List.map_toArray, List.map_cons, List.map_nil, hs, hx, hrun]
  exact hK _ _ (h v' w' h2 h3)

theorem wrCells_one : ∀ (ws : List Wr), ∀ u ∈ ws.flatMap wrCells, u.oneCell' = true := by
  intro ws u hu
  obtain ⟨x, _, h⟩ := List.mem_flatMap.1 hu
  simp only [wrCells, List.mem_cons, List.not_mem_nil, or_false] at h
  rcases h with rfl | rfl | rfl <;> rfl

/-- What a row of the call's own holds, read as writes. -/
theorem Ws.of_own {w : World} {base c : Nat} {A : Option Addr} {n : Nat} {ws : List Wr} {S : Nat → Prop} (h : w.ownsRow base 88 3 (.slice A n c) n (ws.flatMap wrCells)) (hn : n = ws.length) (hS : ∀ g, base ≤ g → g < w.heap.size → S g) :
    Ws w S (.slice A n c) ws := by
  subst hn
  have h2 := h.2
  refine ⟨A, c, rfl, ?_, ?_, Rd.of_own h hS⟩
  · rcases h2 with ⟨hv, h0⟩ | ⟨g, cap, cur, hv, _, _, hnc, _⟩
    · omega
    · injection hv with _ _ hc; omega
  · rcases h2 with ⟨hv, h0⟩ | ⟨g, cap, cur, hv, _, _, hnc, hcm, _⟩
    · injection hv with _ _ hc; subst hc; simp
    · injection hv with _ _ hc; subst hc; exact hcm

theorem Ws.of_own' {w : World} {base : Nat} {v : Value} {n : Nat} {ws : List Wr} {S : Nat → Prop} (h : w.ownsRow base 88 3 v n (ws.flatMap wrCells)) (hn : n = ws.length) (hS : ∀ g, base ≤ g → g < w.heap.size → S g) :
    Ws w S v ws := by
  rcases h.2 with ⟨rfl, h0⟩ | ⟨g, cap, cur, rfl, _⟩
  · subst h0; exact Ws.of_own h hn hS
  · exact Ws.of_own h hn hS

set_option maxHeartbeats 400000 in
/-- slices.Clone of writes: nil of nil, else a new row. -/
theorem clone_any (S : Nat → Prop) (v : Value) (ws : List Wr) (w : World) (hw : Ws w S v ws) (hl : ws.length ≤ 1000000) :
    Calls Try.prog 49 #[v] w fun e w' => ∃ v', e = .returned v' ∧ Ws w' (fun b => w.heap.size ≤ b) v' ws ∧ Below w.heap.size w w' := by
  obtain ⟨i0, hi0, hz0, hz1, hz2⟩ := info_parts info88
  obtain ⟨A, c, rfl, hc, hm, hr⟩ := hw
  have HL := hid hl
  clear hl
  cases A with
  | none =>
    have h0 : ws = [] := by
      rcases Nat.eq_zero_or_pos ws.length with h | h
      · exact List.eq_nil_of_length_eq_zero h
      · obtain ⟨b, o, e, _⟩ := hr.2 h; cases e
    subst h0
    have he : ∀ W, (binOp .eql 32 (.slice none ([] : List Wr).length c) (.slice none 0 0)).run Try.prog W = .ok (.bool true) W := fun _ => by kernel_rfl
    have he0 : ∀ W, (binOp .eql 32 (.slice none 0 c) (.slice none 0 0)).run Try.prog W = .ok (.bool true) W := fun _ => by kernel_rfl
    go_enter Try.func49, Try.ntmps49
    go_wp2
    go_returns
    exact ⟨_, rfl, ⟨none, 0, rfl, Nat.le_refl _, by simp, Rd.nil⟩, Below.refl _ _⟩
  | some ad =>
    have HR := hid hr
    clear hr
    have he : ∀ W, (binOp .eql 32 (.slice (some ad) ws.length c) (.slice none 0 0)).run Try.prog W = .ok (.bool false) W := fun _ => by kernel_rfl
    go_enter Try.func49, Try.ntmps49
    go_wp2_with (at_builtin; (refine wpList_append_rd _ rfl (.tmp 5) (.tmp 6) _ rfl w.heap.size 88 i0 _ 3 40 Try.underlying32 hi0 hz0 hz1 hz2 rfl (by omega) (.slice (some ⟨w.heap.size, 0, none⟩) 0 0) 0 [] rfl (World.ownsRow_made w #[] 0 (Nat.le_refl _) (by simp) (by simp)) S (some ad) ws.length c (ws.flatMap wrCells) rfl (HR.out.alloc _) (wrCells_one ws) (by have := HL.out; simp only [maxLen]; omega) (by have := HL.out; omega) (by simp) ?_); intro v1 w1 hown1 hg1)
    go_returns
    have hb1 : Below w.heap.size w w1 := ((Below.refl _ w).alloc (Nat.le_refl _) _).grown hg1 (by simp) (by simp [Value.ownBlock])
    refine ⟨v1, rfl, Ws.of_own' (by simpa using hown1) rfl (fun g h _ => h), hb1⟩

theorem sep1 {n b k : Nat} (h : n + k ≤ b) : n ≤ b := by omega
theorem sep2 {n b : Nat} (h : n + 2 ≤ b) : ¬ (b = n ∨ b = n + 1) := by omega
set_option maxHeartbeats 400000 in
/-- own: the same, with writes in new memory. -/
theorem own_any (t : Tx) (S : Nat → Prop) (v : Value) (w : World) (hw : Ws w S v t.ws) (hl : t.ws.length ≤ 1000000) :
    Calls Try.prog 35 #[txVal t v] w fun e w' => ∃ v', e = .returned (txVal t v') ∧ Ws w' (fun b => w.heap.size ≤ b) v' t.ws ∧ Below w.heap.size w w' := by
  have HC := clone_any S v t.ws
  have HC := fun W hb => HC W (hw.below hb) hl
  have HC := hid HC
  clear hl hw
  obtain ⟨o, s, d0, d1, d2, ws⟩ := t
  simp only [] at HC
  go_enter Try.func35, Try.ntmps35
  go_wp2_with fail
  refine (HC.out _ (by go_grown)).mono ?_
  rintro e w1 ⟨v1, rfl, hv1, hb1⟩
  have B1 : Blk w1 w.heap.size 34 [.int .i64 o, .int .i64 s, .int .i64 d0, .int .i64 d1, .int .i64 d2, v] := ((Blk.new w _ _).alloc _).next hb1
  have B2 : Blk w1 (w.heap.size + 1) 34 [.int .i64 0, .int .i64 0, .int .i64 0, .int .i64 0, .int .i64 0, .slice none 0 0] := by
    have h := Blk.new (w.alloc (.cells #[.int .i64 o, .int .i64 s, .int .i64 d0, .int .i64 d1, .int .i64 d2, v] 34)) 34 [.int .i64 0, .int .i64 0, .int .i64 0, .int .i64 0, .int .i64 0, .slice none 0 0]
    rw [World.size_alloc] at h
    exact h.next hb1
  have c1 := B1.cell
  have f1 := B1.free
  have c2 := B2.cell
  have f2 := B2.free
  have hbw : Below w.heap.size w w1 := Below.next (by go_grown) hb1
  have hz : w.heap.size + 1 < w1.heap.size := B2.lt
  obtain ⟨A1, k1, rfl, _⟩ := id hv1
  go_wp2
  refine bodyPost_ret (v := txVal ⟨o, s, d0, d1, d2, ws⟩ (.slice A1 ws.length k1)) (by simp [results, Try.results35, go_sem, c2]) rfl ?_
  have hv2 : Ws w1 (fun b => w.heap.size + 2 ≤ b) (.slice A1 ws.length k1) ws := hv1.more (fun b _ h => by simpa using h)
  refine ⟨.slice A1 ws.length k1, rfl, ?_, ?_⟩
  · refine Ws.more (S := fun b => w.heap.size + 2 ≤ b) ?_ (fun b _ h => sep1 h)
    refine Ws.chg (F := fun i => i = w.heap.size ∨ i = w.heap.size + 1) hv2 ?_ (fun b h => sep2 h)
    repeat' (first | (with_reducible exact Chg.refl _ _) | (with_reducible refine Chg.set ?_ ?_ _))
    all_goals simp
  · go_grown
end Go.Proofs.Ytllkeifldfmbkaa
