/- Layer 14: one Put of a run in which all come, told for OrderTurned. -/
import Derived.Test.YtllkeifldfmbkaaTurnS
import Derived.Test.YtllkeifldfmbkaaTurnA
namespace Go.Proofs.Ytllkeifldfmbkaa
open Go.RowKit

def rowC (ps : List Nat) : List Value := ps.flatMap (fun j : Nat => txCells (U (11 + (j : Int))) (.slice none 0 0))
theorem rowC_map (ps : List Nat) : rowC ps = (ps.map (fun j : Nat => (U (11 + (j : Int)), Value.slice none 0 0))).flatMap (fun x => txCells x.1 x.2) := by
  rw [List.flatMap_map]; rfl
theorem rowC_len (ps : List Nat) : (rowC ps).length = ps.length * 6 := flat_len _ 6 (fun _ => rfl) ps
theorem rowC_one (ps : List Nat) : ∀ u ∈ rowC ps, u.oneCell' = true := by
  intro u hu
  obtain ⟨x, _, h⟩ := List.mem_flatMap.1 hu
  exact txCells_one u h
theorem rowC_get {ps : List Nat} {k j : Nat} (hk : ps[k]? = some j) (i : Nat) (hi : i < 6) : (rowC ps)[k * 6 + i]? = (txCells (U (11 + (j : Int))) (.slice none 0 0))[i]? := by
  unfold rowC
  rw [flat_get _ 6 (fun _ => rfl) ps k i hi, hk]; rfl
theorem rowC_set {ps : List Nat} {k : Nat} (hk : k < ps.length) (j : Nat) : setL (rowC ps) (k * 6) (txCells (U (11 + (j : Int))) (.slice none 0 0)) = rowC (ps.set k j) :=
  flat_set (fun j : Nat => txCells (U (11 + (j : Int))) (.slice none 0 0)) 6 (fun _ => rfl) j ps k hk
theorem ws_nil_any {w w' : World} {S S' : Nat → Prop} {v : Value} {ws : List Wr} (h : Ws w S v ws) (h0 : ws = []) : Ws w' S' v ws := by
  subst h0
  obtain ⟨A, c, e, h1, h2, _⟩ := h
  exact ⟨A, c, e, h1, h2, Rd.nil⟩
theorem ws_none (W : World) (t : Tx) (h : t.ws = []) : Ws W (fun _ => False) (.slice none 0 0) t.ws := by
  rw [h]; exact ⟨none, 0, rfl, by simp, by simp [maxLen], Rd.nil⟩
theorem Ints.empty {w : World} {B : Nat} {v : Value} (h : Ints w B v []) : ∃ A c, v = .slice A 0 c := by
  rcases h.2 with ⟨rfl, _⟩ | ⟨g, cap, cur, rfl, _⟩
  · exact ⟨none, 0, rfl⟩
  · exact ⟨_, cap, rfl⟩
theorem bufr_far {X : Nat → Prop} {w w' : World} {g mb : Nat} {o hv : Int} {m : Held} {F : Nat → Prop} (h : Bufr X w g mb o hv m) (k : Chg F w w') (hg : ¬ F g) (hm : ¬ F mb) (h0 : ∀ p ∈ m, p.2.1.ws = []) : Bufr X w' g mb o hv m :=
  ⟨h.blk.chg k hg, h.map.chg k hm, fun p hp => ws_nil_any (h.ws p hp) (h0 p hp)⟩
theorem TurnM.nil {ps : List Nat} {k h : Nat} {m : Held} (I : TurnM ps k h m) : ∀ p ∈ m, p.2.1.ws = [] := by
  intro p hp
  obtain ⟨j, _, _, e⟩ := I.key p hp
  rw [e]; rfl

def TurnP (w : World) (g mb : Nat) (ps : List Nat) (k h : Nat) (e : Ending) (w' : World) : Prop :=
  ∃ (kind : Int) (out : List (Tx × Value)) (m' : Held) (A : Option Addr) (c : Nat), e = .returned (.tuple #[.int .i64 kind, .slice A out.length c]) ∧ Bufr (fun _ => False) w' g mb 2 (10 + ((h + out.length : Nat) : Int)) m' ∧ TurnM ps (k + 1) (h + out.length) m' ∧
    (∀ i x, out[i]? = some x → x.1 = U (11 + ((h + i : Nat) : Int))) ∧ Txs w' (fun _ => True) (.slice A out.length c) out ∧ Chg (fun b => b = g ∨ b = mb) w w'

theorem turn_put {ps : List Nat} {k h j : Nat} {m : Held} (g mb : Nat) (w : World) (hB : Bufr (fun _ => False) w g mb 2 (10 + (h : Int)) m) (I : TurnM ps k h m) (hn : ps.Nodup) (hk : ps[k]? = some j) (hj : j < 8) (hk8 : k < 8) :
    Calls Try.prog 11 #[.pointer (some ⟨g, 0, none⟩), txVal (U (11 + (j : Int))) (.slice none 0 0)] w (TurnP w g mb ps k h) := by
  have hl := I.len
  refine (put_any g mb 2 (10 + (h : Int)) m (U (11 + (j : Int))) (fun _ => False) (.slice none 0 0) w hB (ws_none w _ rfl) (by omega) (by omega) (by omega) (fun b hb => hb.elim)).mono ?_
  rintro e w' ⟨p1, p3, p2⟩
  have hp := I.put hn hk hj hk8
  by_cases hjh : j = h
  · subst hjh
    rw [if_pos rfl] at hp
    obtain ⟨v', v, rfl, q2, q3, q4, q5⟩ := p2 hp
    obtain ⟨e1, I', e3⟩ := I.next hk hj v' _ rfl
    obtain ⟨A, c, rfl, hT⟩ := txs_of_own q3 (fun x hx => (q4 x hx).more (fun _ _ _ => trivial))
    rw [e1] at q2
    exact ⟨2, _, _, A, c, rfl, q2, I', e3, hT, q5⟩
  · rw [if_neg hjh] at hp
    obtain ⟨v', rfl, q2, q3⟩ := p3 hp
    exact ⟨3, [], _, none, 0, rfl, q2, I.held hn hk hj hjh v', by simp, ⟨none, 0, rfl, Nat.le_refl _, by simp, Rd.nil, by simp⟩, q3⟩
end Go.Proofs.Ytllkeifldfmbkaa
