/- Layer 12: Take. -/
import Derived.Test.YtllkeifldfmbkaaDueK
import Derived.Deep.LoopGhost
namespace Go.Proofs.Ytllkeifldfmbkaa
open Go.RowKit

theorem info_due : (Try.prog.info? 72).map (fun i => (i.zero, i.size, i.bytes)) = some (some (.agg #[.int .i64 0, .int .i64 0]), 2, 16) := by kernel_rfl
/-- append of a slice that reads as xs (nil or not) to a row of the call's own. -/
theorem run_append_rd2 {P : Program} (w : World) (base : Nat) (t ty e : TypeId) (i : TypeInfo) (z : Value) (size bytes : Nat) (ht : P.underlying t = some (.slice e)) (hi : P.info? e = some i) (hz : i.zero = some z)
    (hsize : i.size = size) (hby : i.bytes = bytes) (hzs : z.cells.size = size) (hsz : 0 < size)
    (v : Value) (n : Nat) (xs : List Value) (hown : w.ownsRow base e size v n xs)
    (S : Nat → Prop) (A : Option Addr) (m c : Nat) (news : List Value) (hr : Rd w S size A m news) (h1 : ∀ u ∈ news, u.oneCell' = true)
    (h63 : n + m ≤ maxLen) (hbytes : (n + m) * bytes ≤ 140737488355328) (hbase : base ≤ w.heap.size) :
    ∃ v' w', (Builtin.append_ #[t, t] ty #[v, .slice A m c]).run P w = .ok v' w' ∧ w'.ownsRow base e size v' (n + m) (xs ++ news) ∧ w.grownBy w' v.ownBlock ∧ (v'.ownBlock = v.ownBlock ∨ v'.ownBlock = some w.heap.size) := by
  cases A with
  | none =>
    have hm : m = 0 := by
      rcases Nat.eq_zero_or_pos m with h0 | h0
      · exact h0
      · obtain ⟨b, o, h, _⟩ := hr.2 h0; cases h
    subst hm
    have hn : news = [] := List.eq_nil_of_length_eq_zero (by simpa using hr.1)
    subst hn
    refine ⟨v, w, ?_, by simpa using hown, ⟨rfl, rfl, rfl, Nat.le_refl _, fun _ _ _ => rfl⟩, .inl rfl⟩
    rcases hown.2 with ⟨rfl, rfl⟩ | ⟨g, cap, cur, rfl, _, _, hnc, _⟩
    · simp [Builtin.append_, run_underlying ht, sizeOf, typeInfo, hi, Builtin.lenOf, Builtin.firstCells]
    · simp [Builtin.append_, run_underlying ht, sizeOf, typeInfo, hi, Builtin.lenOf, Builtin.firstCells, hnc, storeCells]
  | some ad =>
    have hcells : ∀ j u, news[j]? = some u → w.cell? (ad.add j) = some u := by
      intro j u hu
      rcases Nat.eq_zero_or_pos m with h0 | h0
      · subst h0
        have hn : news = [] := List.eq_nil_of_length_eq_zero (by simpa using hr.1)
        subst hn; simp at hu
      · obtain ⟨b, o, h, _, _, hc⟩ := hr.2 h0
        injection h with h
        subst h
        rw [Addr.add_lit]
        exact hc j u hu
    obtain ⟨v', w', hrun, h2, h3, _, h5⟩ := run_append_own_at (P := P) w base t ty e i z size bytes ht hi hz hsize hby hzs hsz v n xs hown ad m c news hr.1 hcells h1 h63 hbytes hbase
    exact ⟨v', w', hrun, h2, h3, h5⟩

theorem wpList_append_rd2 {P : Program} (w : World) {ops : Array Oper} {rest : List Oper} {o : Oper} {a : Act} {Q : Exit → Act → World → Prop} (hgd : o.guard = none) (s x : Operand) (t : TypeId)
    (ho : o.op = .call { callee := .builtin .append, args := #[s, x], argTypes := #[t, t] })
    (base : Nat) (e : TypeId) (i : TypeInfo) (z : Value) (size bytes : Nat) (ht : P.underlying t = some (.slice e)) (hi : P.info? e = some i) (hz : i.zero = some z)
    (hsize : i.size = size) (hby : i.bytes = bytes) (hzs : z.cells.size = size) (hsz : 0 < size)
    (v : Value) (n : Nat) (xs : List Value) (hs : a.eval s = v) (hown : w.ownsRow base e size v n xs)
    (S : Nat → Prop) (A : Option Addr) (m c : Nat) (news : List Value) (hx : a.eval x = .slice A m c) (hr : Rd w S size A m news) (h1 : ∀ u ∈ news, u.oneCell' = true)
    (h63 : n + m ≤ maxLen) (hbytes : (n + m) * bytes ≤ 140737488355328) (hbase : base ≤ w.heap.size)
    (h : ∀ v' w', w'.ownsRow base e size v' (n + m) (xs ++ news) → w.grownBy w' v.ownBlock → (v'.ownBlock = v.ownBlock ∨ v'.ownBlock = some w.heap.size) → wpList P ops Q rest (a.put o.dst v') w') : wpList P ops Q (o :: rest) a w := by
  obtain ⟨v', w', hrun, h2, h3, h4⟩ := run_append_rd2 (P := P) w base t o.type e i z size bytes ht hi hz hsize hby hzs hsz v n xs hown S A m c news hr h1 h63 hbytes hbase
  refine wpList_plain hgd fun K hK => ?_
  unfold Oper.wp execOp
  simp only [ho, resolve, invoke, builtin, Sem.run_bind, Sem.run_pure, Result.andThen_ok, List.map_toArray, List.map_cons, List.map_nil, hs, hx, hrun]
  exact hK _ _ (h v' w' h2 h3 h4)

def dueCells (x : Nd) : List Value := [.int .i64 x.key, .int .i64 x.at_]
theorem dueCells_one : ∀ (l : List Nd), ∀ u ∈ l.flatMap dueCells, u.oneCell' = true := by
  intro l u hu
  obtain ⟨x, _, h⟩ := List.mem_flatMap.1 hu
  simp only [dueCells, List.mem_cons, List.not_mem_nil, or_false] at h
  rcases h with rfl | rfl <;> rfl
theorem own_own_ne {w : World} {base base' : Nat} {e e' : TypeId} {size size' n n' : Nat} {v v' : Value} {xs xs' : List Value} (h : w.ownsRow base e size v n xs) (h' : w.ownsRow base' e' size' v' n' xs') (hne : e ≠ e') {g : Nat} (hg : v.ownBlock = some g) : v'.ownBlock ≠ some g := by
  rcases h.2 with ⟨rfl, _⟩ | ⟨g', cap, cur, rfl, _, hh, _⟩
  · simp [Value.ownBlock] at hg
  · have : g' = g := by simpa [Value.ownBlock] using hg
    subst this
    rcases h'.2 with ⟨rfl, _⟩ | ⟨g2, cap2, cur2, rfl, _, hh2, _⟩
    · simp [Value.ownBlock]
    · intro e2
      have : g2 = g' := by simpa [Value.ownBlock] using e2
      subst this
      rw [hh] at hh2
      injection hh2 with hh2
      injection hh2 with _ ht
      exact hne ht
/-- A row of another type is none of the list's blocks. -/
theorem DueS.far {w : World} {F : Nat → Prop} {lb : Nat} {most now : Int} {L : List Nd} {base : Nat} {e : TypeId} {size n : Nat} {v : Value} {xs : List Value} (h : DueS w F lb most now L) (ho : w.ownsRow base e size v n xs) (h1 : e ≠ 98) (h2 : e ≠ 101) (h3 : e ≠ 99) :
    ∀ b, F b → v.ownBlock ≠ some b := by
  obtain ⟨⟨av, mb, mp, hs, g1, g2, _, _, _, _, g7⟩, _⟩ := h
  intro b hb
  rcases (g7 b).1 hb with (rfl | hb | hb) | rfl
  · exact own_blk_ne ho g1.blk h1
  · exact own_own_ne g1.heap.arr ho (Ne.symm h3) hb
  · obtain ⟨x, hx, rfl⟩ := List.mem_map.1 hb
    obtain ⟨i, hi⟩ := List.getElem?_of_mem hx
    exact own_blk_ne ho (g1.heap.node i x hi) h2
  · exact g2.own_ne ho

def takeL (L : List Nd) (t : Int) : List Nd := L.takeWhile (fun x => decide (x.at_ ≤ t))
def restL (L : List Nd) (t : Int) : List Nd := L.dropWhile (fun x => decide (x.at_ ≤ t))
def TakeP (w : World) (F : Nat → Prop) (lb : Nat) (most now : Int) (L : List Nd) (t : Int) (e : Ending) (w' : World) : Prop :=
  ∃ v F', e = .returned v ∧ w'.ownsRow w.heap.size 72 2 v (takeL L t).length ((takeL L t).flatMap dueCells) ∧ DueS w' F' lb most now (restL L t) ∧ (∀ b, F' b → F b ∨ w.heap.size ≤ b) ∧ Chg F w w'
/-- What the loop of Take keeps. -/
def TakeI (w : World) (F : Nat → Prop) (lb : Nat) (most now : Int) (L : List Nd) (t : Int) (n : Nat) (ov : Value) (wr : World) : Prop :=
  ∃ tk rest F1, n = rest.length ∧ L = tk ++ rest ∧ (∀ x ∈ tk, x.at_ ≤ t) ∧ DueS wr F1 lb most now rest ∧ wr.ownsRow w.heap.size 72 2 ov tk.length (tk.flatMap dueCells) ∧ (∀ b, F1 b → F b ∨ w.heap.size ≤ b) ∧ Chg F w wr
theorem take_split : ∀ (tk rest : List Nd) (t : Int), (∀ x ∈ tk, x.at_ ≤ t) → (rest = [] ∨ ∃ x r, rest = x :: r ∧ t < x.at_) → takeL (tk ++ rest) t = tk ∧ restL (tk ++ rest) t = rest
  | [], rest, t, _, he => by
    rcases he with rfl | ⟨x, r, rfl, hx⟩
    · exact ⟨rfl, rfl⟩
    · have : ¬ x.at_ ≤ t := by omega
      simp [takeL, restL, this]
  | y :: tk, rest, t, htk, he => by
    have hy := htk y (by simp)
    obtain ⟨i1, i2⟩ := take_split tk rest t (fun x hx => htk x (by simp [hx])) he
    simp only [takeL, restL, List.cons_append, List.takeWhile_cons, List.dropWhile_cons, hy, decide_true, if_true] at i1 i2 ⊢
    rw [i1, i2]
    exact ⟨rfl, rfl⟩
theorem takeI_end {w wr : World} {F F1 : Nat → Prop} {lb : Nat} {most now t : Int} {L tk rest : List Nd} {ov : Value} (hL : L = tk ++ rest) (htk : ∀ x ∈ tk, x.at_ ≤ t) (hD : DueS wr F1 lb most now rest) (hO : wr.ownsRow w.heap.size 72 2 ov tk.length (tk.flatMap dueCells))
    (hF : ∀ b, F1 b → F b ∨ w.heap.size ≤ b) (hc : Chg F w wr) (he : rest = [] ∨ ∃ x r, rest = x :: r ∧ t < x.at_) : TakeP w F lb most now L t (.returned ov) wr := by
  have e := take_split tk rest t htk he
  rw [← hL] at e
  unfold TakeP
  rw [e.1, e.2]
  exact ⟨ov, F1, rfl, hO, hD, hF, hc⟩

theorem dropL_head {x : Nd} {r : List Nd} (hn : ((x :: r).map (·.key)).Nodup) : keyL (x :: r) x.key = some x ∧ dropL (x :: r) x.key = r := by
  refine ⟨by simp [keyL], ?_⟩
  simp only [List.map_cons, List.nodup_cons] at hn
  unfold dropL
  rw [List.filter_cons, if_neg (by simp), List.filter_eq_self]
  intro q hq
  have : x.key ≠ q.key := fun e => hn.1 (by rw [e]; exact List.mem_map.2 ⟨q, hq, rfl⟩)
  simp [this]
/-- One round of Take. -/
theorem take_step {w wr w1 w2 w4 : World} {F F1 : Nat → Prop} {lb mb n : Nat} {most now t : Int} {L tk r : List Nd} {x : Nd} {av ov ov' : Value} {hs : List Nd} {mp : List (Int × Value)} {e : Ending} (h1 : LstM wr lb (.map (some mb)) (.int .i64 most) (.int .i64 now) av hs)
    (hM : GMap intKey wr mb mp) (hh : Heap hs hs.length) (hp : hs.Perm (x :: r)) (hk : ∀ k, mget mp k = (keyL (x :: r) k).map ptr) (hml : mp.length = (x :: r).length) (hF1 : ∀ b, F1 b ↔ Foot lb av hs b ∨ b = mb) (hsrt : (x :: r).Pairwise Nd.lt) (hkn : ((x :: r).map (·.key)).Nodup) (hok : ∀ y ∈ x :: r, y.set ≤ now ∧ 0 ≤ y.key ∧ 0 ≤ y.at_)
    (hn : hs.length = n + 1) (hhd : hs[0]? = some x) (hL : L = tk ++ x :: r) (htk : ∀ y ∈ tk, y.at_ ≤ t) (hxt : x.at_ ≤ t) (hO : wr.ownsRow w.heap.size 72 2 ov tk.length (tk.flatMap dueCells)) (hF : ∀ b, F1 b → F b ∨ w.heap.size ≤ b) (hc : Chg F w wr)
    (hP : HPopP wr lb (.map (some mb)) (.int .i64 most) (.int .i64 now) av hs ((popL hs).take n) x e w1) (hM2 : GMap intKey w2 mb (mdel mp x.key)) (k2 : Chg (fun b => b = mb) w1 w2) :
    w2.ownsRow w.heap.size 72 2 ov tk.length (tk.flatMap dueCells) ∧ w.heap.size ≤ w2.heap.size ∧ (w4.ownsRow w.heap.size 72 2 ov' (tk.length + 1) (tk.flatMap dueCells ++ dueCells x) → (w2.alloc (.cells (dueCells x).toArray 72)).grownBy w4 ov.ownBlock → TakeI w F lb most now L t r.length ov' w4) := by
  obtain ⟨_, av', r1, r2, r3, _⟩ := hP
  obtain ⟨q1, q2, q3⟩ := pop_rel hh hp hn hhd
  obtain ⟨d1, d2⟩ := dropL_head hkn
  have hsub : ∀ y ∈ (popL hs).take n, y ∈ hs := fun y hy => (popL_heap hh hhd).2.1.mem_iff.1 (List.mem_of_mem_take hy)
  obtain ⟨F', g1, g2, g3⟩ := take_out (n := n) h1 hM hk hml hF1 hsrt hkn hok d1 (by rw [← hp.length_eq, hn]) q2 (by rw [d2]; exact q3) r1 r2 r3 hsub hM2 k2
  rw [d2] at g1
  have hDr : DueS wr F1 lb most now (x :: r) := ⟨⟨av, mb, mp, hs, h1, hM, hh, hp, hk, hml, hF1⟩, hsrt, hkn, hok⟩
  have O2 := own_chg hO g3 (fun g hg hFg => hDr.far hO (by decide) (by decide) (by decide) g hFg hg)
  have hsz : w.heap.size ≤ w2.heap.size := Nat.le_trans hc.size g3.size
  refine ⟨O2, hsz, fun O4 hg => ?_⟩
  have k4 : Chg (fun b => ov.ownBlock = some b) w2 w4 := (Chg.alloc _ w2 _).trans (Chg.grown hg (fun k hk => hk))
  have hF' : ∀ b, F' b → F b ∨ w.heap.size ≤ b := fun b hb => by
    rcases g2 b hb with hb | hb
    · exact hF b hb
    · exact .inr (Nat.le_trans hc.size hb)
  refine ⟨tk ++ [x], r, F', rfl, by simp [hL], fun y hy => ?_, g1.chg k4 (fun b hb => g1.far O2 (by decide) (by decide) (by decide) b hb), by rw [List.length_append, List.flatMap_append]; simpa using O4, hF', ?_⟩
  · rcases List.mem_append.1 hy with hy | hy
    · exact htk y hy
    · simp at hy; subst hy; exact hxt
  · refine (hc.trans' g3 (fun i hi hb => ?_)).trans' k4 (fun i hi hb => absurd (O2.lt i hb).1 (by omega))
    rcases hF i hb with hb | hb
    · exact hb
    · omega

set_option maxRecDepth 100000 in
set_option maxHeartbeats 2000000 in
theorem dtake_any (F : Nat → Prop) (lb : Nat) (most now : Int) (L : List Nd) (t : Int) (w : World) (h : DueS w F lb most now L) (hl : L.length ≤ 5000) :
    Calls Try.prog 25 #[.pointer (some ⟨lb, 0, none⟩), .int .i64 t] w (TakeP w F lb most now L t) := by
  obtain ⟨i0, hi0, hz0, hz1, hz2⟩ := info_parts info_due
  have hta : ∀ v W, (Instr.typeAssert (.iface 99 v) 20 99 false).run Try.prog W = .ok v W := fun _ _ => by kernel_rfl
  replace h := hid h
  go_enter Try.func25, Try.ntmps25
  go_wp2_with fail
  go_loopg [5] L.length (fun n ov wr => TakeI w F lb most now L t n ov wr)
  case atStart => exact ⟨[], L, F, rfl, rfl, by simp, h.out, World.ownsRow_nil _ _ _ _, fun b hb => .inl hb, Chg.refl _ _⟩
  case round =>
    clear h
    obtain ⟨tk, rest, F1, rfl, hL, htk, hD, hO, hF, hc⟩ := hrel
    obtain ⟨⟨av, mb, mp, hs, h1, hM, hh, hp, hk, hml, hF1⟩, hsrt, hkn, hok⟩ := id hD
    obtain ⟨A, c, rfl, l0⟩ := h1.slice rfl
    have l1 : wr.cell? ⟨lb, 1, none⟩ = some (.map (some mb)) := h1.blk.cell 1
    cases rest with
    | nil =>
      have hfin := hid (takeI_end hL htk hD hO hF hc (.inl rfl))
      have h0 : hs.length = 0 := by rw [hp.length_eq]; rfl
      rw [h0] at l0
      clear hL htk hD hO hF hc h1 hM hh hp hk hml hF1 hsrt hkn hok h0
      go_wp2
      go_returns
      exact hfin.out
    | cons x r =>
      have hhd := heap_head hh hp rfl hsrt
      obtain ⟨n, hn⟩ : ∃ n, hs.length = n + 1 := ⟨r.length, by rw [hp.length_eq]; rfl⟩
      obtain ⟨g, cap, hav, hc1, hc2, hcell⟩ := h1.heap.form (k := 0) (by omega)
      have c0 : wr.cell? ⟨g, 0, none⟩ = some (.pointer (some ⟨x.b, 0, none⟩)) := hcell 0 x hhd
      have x1 : wr.cell? ⟨x.b, 1, none⟩ = some (.int .i64 x.at_) := (h1.heap.node 0 x hhd).cell 1
      injection hav with hA _ hcc
      subst hA hcc
      rw [hn] at l0
      have hlr : (x :: r).length ≤ 5000 := by rw [hL, List.length_append] at hl; omega
      by_cases hxt : x.at_ ≤ t
      · obtain ⟨q1, _, _⟩ := pop_rel hh hp hn hhd
        have hPop := hpop_any lb _ _ _ _ hs n x wr h1 hn q1 (by simp at hlr; have := hp.length_eq; simp at this; omega)
        have hst := fun (e : Ending) (w1 w2 w4 : World) (ov' : Value) hP hM2 k2 => take_step (e := e) (w1 := w1) (w2 := w2) (w4 := w4) (ov' := ov') h1 hM hh hp hk hml hF1 hsrt hkn hok hn hhd hL htk hxt hO hF hc hP hM2 k2
        have hl1 : ∀ w1 e, HPopP wr lb (.map (some mb)) (.int .i64 most) (.int .i64 now) (.slice (some ⟨g, 0, none⟩) hs.length c) hs ((popL hs).take n) x e w1 →
            e = .returned (.iface 99 (ptr x)) ∧ (∃ av', Blk w1 lb 98 [av', .map (some mb), .int .i64 most, .int .i64 now]) ∧ (∃ p, Blk w1 x.b 101 (ndCells x p)) ∧ GMap intKey w1 mb mp := by
          rintro w1 e ⟨r0, av', r1, r2, r3, r5⟩
          exact ⟨r0, ⟨av', r1.blk⟩, r5, hM.chg r2 (mb_far h1 hM)⟩
        have hlm : lb ≠ mb := fun e => mb_far h1 hM (.inl e.symm)
        have hxm : x.b ≠ mb := hM.ne_blk (h1.heap.node 0 x hhd)
        have hlen1 : tk.length + 1 ≤ 5000 := by rw [hL, List.length_append] at hl; simp at hl; omega
        obtain ⟨mm, hmm⟩ : ∃ mm, mm = r.length := ⟨_, rfl⟩
        have hml2 : (x :: r).length = mm + 1 := by rw [hmm]; rfl
        rw [← hmm] at hst
        unfold face at hPop
        rw [hn] at hPop hst hl1
        replace hPop := hid hPop
        replace hst := hid hst
        replace hl1 := hid hl1
        replace hml2 := hid hml2
        replace hlen1 := hid hlen1
        clear hL htk hD hO hF hc h1 hM hh hp hk hml hF1 hsrt hkn hok hhd hcell q1 hmm hlr
        obtain ⟨xb, xk, xa, xs⟩ := x
        simp only [] at *
        go_wp2_with fail
        refine hPop.out.mono ?_
        intro e w1 hp
        obtain ⟨rfl, ⟨av', B1⟩, ⟨pp, X1⟩, hM1⟩ := hl1.out _ _ hp
        have m1 : w1.cell? ⟨lb, 1, none⟩ = some (.map (some mb)) := B1.cell 1
        replace hp := hid hp
        replace B1 := hid B1
        replace X1 := hid X1
        replace hM1 := hid hM1
        clear hPop hl1
        unfold ptr
        simp only []
        go_wp2_with fail
        go_region_held3 (fun w' => w'.cell? ⟨lb, 1, none⟩ = some (.map (some mb)) ∧ w'.cell? ⟨xb, 0, none⟩ = some (.int .i64 xk))
          (first
            | exact ⟨B1.out.drew.cell 1, X1.out.drew.cell 0⟩
            | exact ⟨(Blk.chg B1.out.drew k2 hlm).cell 1, (Blk.chg X1.out.drew k2 hxm).cell 0⟩)
          ((refine step_delete_g (by rfl) _ _ (by rfl) dueKeys Try.underlying94 (by rfl) hM1.out.drew xk (by rfl) ?_; intro w2 M2 k2))
        have X2 : Blk w2 xb 101 (ndCells ⟨xb, xk, xa, xs⟩ pp) := Blk.chg X1.out.drew k2 hxm
        have y0 : w2.cell? ⟨xb, 0, none⟩ = some (.int .i64 xk) := X2.cell 0
        have y1 : w2.cell? ⟨xb, 1, none⟩ = some (.int .i64 xa) := X2.cell 1
        have hg2 := fun w4 ov' => hst.out _ w1 w2 w4 ov' hp.out M2 (((Chg.refl (fun b => b = mb) w1).draw).trans k2)
        obtain ⟨O2, hz2', _⟩ := hg2 w2 (.slice none 0 0)
        replace hg2 := hid hg2
        replace O2 := hid O2
        replace M2 := hid M2
        clear hst X2 k2
        go_wp2_with (at_builtin; (refine wpList_append_rd2 _ rfl (.tmp 42) (.tmp 47) _ rfl w.heap.size 72 i0 _ 2 16 Try.underlying61 hi0 hz0 hz1 hz2 rfl (by omega) u5 tk.length (tk.flatMap dueCells) rfl (O2.out.alloc _) (fun _ => True) (some ⟨w2.heap.size, 0, none⟩) 1 1 [.int .i64 xk, .int .i64 xa] rfl (Rd.new w2 _ _ 1 2 rfl trivial) (by simp [Value.oneCell']) (by have := hlen1.out; simp only [maxLen]; omega) (by have := hlen1.out; omega) (by simp; omega) ?_); intro ov' w4 O4 hg4 _; have hgo := hid ((hg2.out w4 ov').2.2 O4 hg4); clear O4 hg4)
        go_roundg mm
        case rel => exact hgo.out
        case measure => have := hml2.out; omega
      · have hfin := hid (takeI_end hL htk hD hO hF hc (.inr ⟨x, r, rfl, by omega⟩))
        have t1 : decide (x.at_ ≤ t) = false := by simpa using hxt
        clear hL htk hD hO hF hc h1 hM hh hp hk hml hF1 hsrt hkn hok hhd hcell
        obtain ⟨xb, xk, xa, xs⟩ := x
        simp only [] at c0 x1 t1 hxt
        go_wp2
        go_returns
        exact hfin.out
end Go.Proofs.Ytllkeifldfmbkaa
