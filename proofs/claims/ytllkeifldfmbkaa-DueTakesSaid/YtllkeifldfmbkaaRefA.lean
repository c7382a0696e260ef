/- Layer 12, the reference's small functions: Same, and the law's own. -/
import Derived.Test.YtllkeifldfmbkaaDueL
import Derived.Laws.StructEq
namespace Go.Proofs.Ytllkeifldfmbkaa
open Go.RowKit

/-- A key and its tick, as two cells. -/
def ka (p : Int × Int) : List Value := [.int .i64 p.1, .int .i64 p.2]
theorem ka_one : ∀ (l : List (Int × Int)), ∀ u ∈ l.flatMap ka, u.oneCell' = true := by
  intro l u hu
  obtain ⟨x, _, h⟩ := List.mem_flatMap.1 hu
  simp only [ka, List.mem_cons, List.not_mem_nil, or_false] at h
  rcases h with rfl | rfl <;> rfl
def kaL (L : List Nd) : List (Int × Int) := L.map (fun x => (x.key, x.at_))
theorem dueCells_ka (L : List Nd) : L.flatMap dueCells = (kaL L).flatMap ka := by
  unfold kaL; rw [List.flatMap_map]; rfl
/-- The slice value v reads as the pairs l. -/
def Kas (w : World) (S : Nat → Prop) (v : Value) (l : List (Int × Int)) : Prop := ∃ A c, v = .slice A l.length c ∧ l.length ≤ c ∧ c ≤ maxLen ∧ Rd w S 2 A l.length (l.flatMap ka)
theorem Kas.chg {w w' : World} {S F : Nat → Prop} {v : Value} {l : List (Int × Int)} (h : Kas w S v l) (k : Chg F w w') (hS : ∀ b, S b → ¬ F b) : Kas w' S v l := by
  obtain ⟨A, c, e, h1, h2, h3⟩ := h
  exact ⟨A, c, e, h1, h2, h3.chg k hS⟩
theorem Kas.next {w w' : World} {S : Nat → Prop} {v : Value} {l : List (Int × Int)} (h : Kas w S v l) (k : Below w.heap.size w w') : Kas w' S v l := h.chg (Chg.of_below (F := fun _ => False) k) (fun _ _ => id)
theorem Kas.more {w : World} {S S' : Nat → Prop} {v : Value} {l : List (Int × Int)} (h : Kas w S v l) (hS : ∀ b, b < w.heap.size → S b → S' b) : Kas w S' v l := by
  obtain ⟨A, c, e, h1, h2, h3⟩ := h
  exact ⟨A, c, e, h1, h2, h3.more hS⟩
theorem Kas.of_own {w : World} {base : Nat} {e : TypeId} {v : Value} {l : List (Int × Int)} (h : w.ownsRow base e 2 v l.length (l.flatMap ka)) : Kas w (fun b => v.ownBlock = some b) v l := by
  rcases h.2 with ⟨rfl, h0⟩ | ⟨g, cap, cur, rfl, _, _, hnc, hcm, _⟩
  · have : l = [] := List.eq_nil_of_length_eq_zero h0
    subst this
    exact ⟨none, 0, rfl, Nat.le_refl _, by simp, Rd.nil⟩
  · refine ⟨_, cap, rfl, hnc, hcm, h.1, fun hn => ⟨g, 0, rfl, (h.lt g rfl).2, rfl, fun j u hu => ?_⟩⟩
    have := h.cells (g := g) rfl j u hu
    rw [Addr.add_lit] at this
    exact this
theorem Rd.ka {w : World} {S : Nat → Prop} {A : Option Addr} {l : List (Int × Int)} (h : Rd w S 2 A l.length (l.flatMap ka)) {k : Nat} {p : Int × Int} (hk : l[k]? = some p) :
    ∃ b o, A = some ⟨b, o, none⟩ ∧ b < w.heap.size ∧ S b ∧ w.cell? ⟨b, o + k * 2, none⟩ = some (.int .i64 p.1) ∧ w.cell? ⟨b, o + k * 2 + 1, none⟩ = some (.int .i64 p.2) := by
  have hlt : k < l.length := (List.getElem?_eq_some_iff.1 hk).1
  obtain ⟨b, o, e, hb, hs, hc⟩ := h.at_ hlt
  refine ⟨b, o, e, hb, hs, ?_, ?_⟩
  · have := hc 0 (by omega)
    rw [flat_get _ 2 (fun _ => rfl) l k 0 (by omega), hk] at this
    exact this
  · have := hc 1 (by omega)
    rw [flat_get _ 2 (fun _ => rfl) l k 1 (by omega), hk] at this
    exact this
theorem info_rdue : (Try.prog.info? 93).map (fun i => (i.zero, i.size, i.bytes)) = some (some (.agg #[.int .i64 0, .int .i64 0]), 2, 16) := by kernel_rfl

set_option maxRecDepth 100000 in
set_option maxHeartbeats 1000000 in
theorem down12_any (S : Nat → Prop) (v : Value) (l : List (Int × Int)) (w : World) (h : Kas w S v l) (hl : l.length ≤ 10000) :
    Calls Try.prog 24 #[v] w fun e w' => ∃ v', e = .returned v' ∧ w'.ownsRow w.heap.size 93 2 v' l.length (l.flatMap ka) ∧ Below w.heap.size w w' := by
  obtain ⟨i0, hi0, hz0, hz1, hz2⟩ := info_parts info_rdue
  obtain ⟨A, c, rfl, hc1, hc2, hr⟩ := h
  unfold maxLen at hc2
  replace hr := hid hr
  go_enter Try.func24, Try.ntmps24
  go_wp2_with fail
  go_loopg [3, 9] l.length (fun n ov ix wr => ∃ k : Nat, k ≤ l.length ∧ n = l.length - k ∧ ix = .int .i64 k ∧ wr.ownsRow w.heap.size 93 2 ov k ((l.take k).flatMap ka) ∧ Below w.heap.size w wr)
  case atStart => exact ⟨0, Nat.zero_le _, by omega, rfl, World.ownsRow_made w #[] 0 (Nat.le_refl _) (by simp) (by simp), (Below.refl _ _).alloc (Nat.le_refl _) _⟩
  case round =>
    obtain ⟨k, hk, rfl, rfl, hO, hb⟩ := hrel
    by_cases hlt : k < l.length
    · obtain ⟨p, hp⟩ : ∃ p, l[k]? = some p := ⟨_, List.getElem?_eq_getElem hlt⟩
      obtain ⟨b, o, rfl, hbl, _, c0, c1⟩ := (hr.out.below hb).ka hp
      have hst : (l.take (k + 1)).flatMap ka = (l.take k).flatMap ka ++ [Value.int .i64 p.1, Value.int .i64 p.2] := by rw [List.take_add_one, hp]; simp [ka]
      have hsz := hb.size
      obtain ⟨p1, p2⟩ := p
      simp only [] at c0 c1 hst
      have hnew : Hid (Rd (((wr.alloc (.cells #[.int .i64 p1, .int .i64 p2] 72))).alloc (.cells #[.int .i64 p1, .int .i64 p2] 93)) (fun _ => True) 2 (some ⟨wr.heap.size + 1, 0, none⟩) 1 [.int .i64 p1, .int .i64 p2]) := by
        have := Rd.new (wr.alloc (.cells #[.int .i64 p1, .int .i64 p2] 72)) 93 [.int .i64 p1, .int .i64 p2] 1 2 (S := fun _ => True) rfl trivial
        rw [World.size_alloc] at this
        exact hid this
      replace hO := hid hO
      replace hb := hid hb
      replace hst := hid hst
      clear hp
      go_wp2_with (at_builtin; (refine wpList_append_rd2 _ rfl (.tmp 13) (.tmp 15) _ rfl w.heap.size 93 i0 _ 2 16 Try.underlying59 hi0 hz0 hz1 hz2 rfl (by omega) u3 k ((l.take k).flatMap ka) rfl ((hO.out.alloc _).alloc _) (fun _ => True) (some ⟨wr.heap.size + 1, 0, none⟩) 1 1 [.int .i64 p1, .int .i64 p2] rfl hnew.out (by simp [Value.oneCell']) (by simp only [maxLen]; omega) (by omega) (by simp; omega) ?_); intro ov' w4 O4 hg4 _)
      have hb4 := hid (Below.grown ((hb.out.alloc hb.out.size _).alloc (by simp; omega) _) hg4 (by simp; omega) (fun r hr' => (hO.out.lt r hr').1))
      clear hg4
      go_roundg (l.length - (k + 1))
      case rel => exact ⟨k + 1, by omega, rfl, by go_num, by rw [hst.out]; exact O4, hb4.out⟩
      case measure => omega
    · obtain rfl : k = l.length := by omega
      rw [List.take_length] at hO
      replace hO := hid hO
      go_wp2
      go_returns
      exact ⟨_, rfl, hO.out, hb⟩

theorem neq_rdue (a b a' b' : Int) (w : World) : (binOp .neq 93 (.agg #[.int .i64 a, .int .i64 b]) (.agg #[.int .i64 a', .int .i64 b'])).run Try.prog w = .ok (.bool (!(a == a' && b == b'))) w := by
  have hu : Try.prog.fieldsOf 93 = #[⟨"Key", 3, 0, false, "", "", 0⟩, ⟨"At", 2, 1, false, "", "", 8⟩] := by kernel_rfl
  have p0 : ∀ (a b : Value), (part 3 #[a, b] 0).run Try.prog w = .ok a w := fun _ _ => by kernel_rfl
  have p1 : ∀ (a b : Value), (part 2 #[a, b] 1).run Try.prog w = .ok b w := fun _ _ => by kernel_rfl
  have e0 := fun (d : Nat) (a b : Int) => run_equalIn_int (P := Try.prog) w d 3 .i64 .i64 a b Try.underlying3
  have e1 := fun (d : Nat) (a b : Int) => run_equalIn_int (P := Try.prog) w d 2 .i64 .i64 a b Try.underlying2
  have h := run_equalIn_struct (P := Try.prog) w 9999 93 #[.int .i64 a, .int .i64 b] #[.int .i64 a', .int .i64 b'] (by kernel_rfl) (by kernel_rfl)
  rw [hu] at h
  have e : (Op.equalIn 10000 93 (.agg #[.int .i64 a, .int .i64 b]) (.agg #[.int .i64 a', .int .i64 b'])).run Try.prog w = .ok (a == a' && b == b') w := by
    rw [h]
    cases h1 : (a == a') <;> cases h2 : (b == b') <;> simp only [Op.eqFields, Sem.run_bind, Sem.run_ite, p0, p1, e0, e1, Result.andThen_ok, h1, h2, ne_eq, Sem.run_pure] <;> simp
  simp only [binOp, Op.equal, Op.maxDepth, Sem.run_bind, e, Result.andThen_ok, Sem.run_pure]
end Go.Proofs.Ytllkeifldfmbkaa
