/- Layer 12: a list and a map beside it. -/
import Derived.Test.YtllkeifldfmbkaaDueAw
namespace Go.Proofs.Ytllkeifldfmbkaa
open Go.RowKit

def pm (T : List Tr) : List (Int × Value) := T.map (fun x => (x.1, Value.int .i64 x.2.1))
theorem pm_drop (T : List Tr) (k : Int) : pm (dropT T k) = mdel (pm T) k := by
  unfold pm dropT mdel; rw [List.filter_map]; rfl
theorem pm_get (T : List Tr) (k : Int) : mget (pm T) k = (keyT T k).map (fun x => Value.int .i64 x.2.1) := by
  unfold mget pm keyT; rw [List.find?_map, Option.map_map]; rfl
theorem pm_keys (T : List Tr) : (pm T).map (·.1) = T.map (·.1) := by unfold pm; rw [List.map_map]; rfl
theorem mget_mem : ∀ {m : List (Int × Value)} (_ : (m.map (·.1)).Nodup) {k : Int} {v : Value}, mget m k = some v ↔ (k, v) ∈ m
  | [], _, k, v => by simp [mget]
  | p :: r, hn, k, v => by
    obtain ⟨h1, h2⟩ := List.nodup_cons.1 hn
    have ih := mget_mem h2 (k := k) (v := v)
    by_cases e : k = p.1
    · subst e
      have h3 : mget (p :: r) p.1 = some p.2 := by simp [mget]
      rw [h3]
      constructor
      · intro h; injection h with h; subst h; exact List.mem_cons_self
      · intro h
        rcases List.mem_cons.1 h with h | h
        · rw [← h]
        · exact absurd (List.mem_map.2 ⟨_, h, rfl⟩) h1
    · have h3 : mget (p :: r) k = mget r k := by simp [mget, e]
      rw [h3, ih]
      constructor
      · exact fun h => List.mem_cons_of_mem _ h
      · intro h
        rcases List.mem_cons.1 h with h | h
        · exact absurd (by rw [← h]) e
        · exact h
theorem mget_perm {m m' : List (Int × Value)} (h : m.Perm m') (hn : (m.map (·.1)).Nodup) (k : Int) : mget m k = mget m' k := by
  have hn' : (m'.map (·.1)).Nodup := (h.map _).nodup_iff.1 hn
  apply Option.ext
  intro v
  rw [mget_mem hn, mget_mem hn']
  exact h.mem_iff
theorem mdel_off {m : List (Int × Value)} {k : Int} (h : k ∉ m.map (·.1)) : mdel m k = m := by
  unfold mdel
  refine List.filter_eq_self.2 (fun p hp => ?_)
  have : ¬ k = p.1 := fun e => h (List.mem_map.2 ⟨p, hp, e.symm⟩)
  simp [this]
theorem mput_in (k : Int) (v : Value) : ∀ (m : List (Int × Value)), (m.map (·.1)).Nodup → k ∈ m.map (·.1) → (m.map (fun p => if k = p.1 then (k, v) else p)).Perm ((k, v) :: mdel m k)
  | [], _, h => by simp at h
  | p :: r, hn, h => by
    obtain ⟨h1, h2⟩ := List.nodup_cons.1 hn
    by_cases e : k = p.1
    · subst e
      have e1 : r.map (fun q => if p.1 = q.1 then (p.1, v) else q) = r := by
        conv => rhs; rw [← List.map_id r]
        refine List.map_congr_left (fun q hq => ?_)
        rw [if_neg (fun e => h1 (List.mem_map.2 ⟨q, hq, e.symm⟩))]; rfl
      have e2 : mdel (p :: r) p.1 = r := by
        have : mdel (p :: r) p.1 = mdel r p.1 := by simp [mdel]
        rw [this, mdel_off h1]
      rw [List.map_cons, if_pos rfl, e1, e2]
    · have hk : k ∈ r.map (·.1) := by
        rw [List.map_cons] at h
        rcases List.mem_cons.1 h with h | h
        · exact absurd h e
        · exact h
      have ih := mput_in k v r h2 hk
      have e2 : mdel (p :: r) k = p :: mdel r k := by simp [mdel, e]
      rw [List.map_cons, if_neg e, e2]
      exact (ih.cons p).trans (List.Perm.swap _ _ _)
theorem mput_perm {m : List (Int × Value)} (hn : (m.map (·.1)).Nodup) (k : Int) (v : Value) : (mput m k v).Perm ((k, v) :: mdel m k) := by
  unfold mput
  split
  · rename_i h
    refine mput_in k v m hn ?_
    by_cases hk : k ∈ m.map (·.1)
    · exact hk
    · rw [mget_none.2 hk] at h; simp at h
  · rename_i h
    have hk : k ∉ m.map (·.1) := mget_none.1 (by cases hc : mget m k with | none => rfl | some v => rw [hc] at h; simp at h)
    rw [mdel_off hk]
    exact List.perm_append_singleton _ _
theorem insT_perm (x : Tr) : ∀ L : List Tr, (insT x L).Perm (x :: L)
  | [] => List.Perm.refl _
  | y :: r => by
    simp only [insT]
    split
    · exact ((insT_perm x r).cons y).trans (List.Perm.swap _ _ _)
    · exact List.Perm.refl _
/-- The map follows a Set. -/
theorem put_follow {m : List (Int × Value)} {T : List Tr} (h : m.Perm (pm T)) (hn : (m.map (·.1)).Nodup) (key at_ s : Int) : (mput m key (.int .i64 at_)).Perm (pm (insT (key, at_, s) (dropT T key))) := by
  refine (mput_perm hn key _).trans ?_
  have h1 : (pm (insT (key, at_, s) (dropT T key))).Perm (pm ((key, at_, s) :: dropT T key)) := (insT_perm _ _).map _
  refine List.Perm.trans ?_ h1.symm
  show ((key, Value.int .i64 at_) :: mdel m key).Perm ((key, Value.int .i64 at_) :: pm (dropT T key))
  rw [pm_drop]
  exact (h.filter _).cons _
theorem del_follow {m : List (Int × Value)} {T : List Tr} (h : m.Perm (pm T)) (key : Int) : (mdel m key).Perm (pm (dropT T key)) := by
  rw [pm_drop]; exact h.filter _

/-- The list, the map beside it (M: what it tells), and blocks that are neither's. -/
def TK (w W : World) (lb mb : Nat) (now : Int) (T M : List Tr) (X : Nat → Prop) : Prop :=
  ∃ F m, DueT W F lb 1000 now T ∧ (∀ b, F b → w.heap.size ≤ b) ∧ w.heap.size ≤ mb ∧ ¬ F mb ∧ GMap intKey W mb m ∧ m.Perm (pm M) ∧ Below w.heap.size w W ∧ ∀ b, X b → ¬ F b ∧ b ≠ mb ∧ b < W.heap.size
theorem gmap_nodup {w : World} {b : Nat} {m : List (Int × Value)} (h : GMap intKey w b m) : (m.map (·.1)).Nodup := by
  obtain ⟨_, _, _, _, hn, _⟩ := h
  exact hn
section
variable {w W w' : World} {lb mb : Nat} {now : Int} {T M : List Tr} {X X' : Nat → Prop}
theorem TK.below (h : TK w W lb mb now T M X) : Below w.heap.size w W := by
  obtain ⟨F, m, h1, h2, h3, h4, h5, h6, h7, h8⟩ := h
  exact h7
theorem TK.facts (h : TK w W lb mb now T M X) : (T.map (·.1)).Nodup ∧ T.Pairwise (fun a b => a.2.1 ≤ b.2.1) ∧ ∀ x ∈ T, 0 ≤ x.1 ∧ 0 ≤ x.2.1 := by
  obtain ⟨F, m, h1, h2, h3, h4, h5, h6, h7, h8⟩ := h
  exact h1.facts
theorem TK.less (h : TK w W lb mb now T M X) (hX : ∀ b, X' b → X b) : TK w W lb mb now T M X' := by
  obtain ⟨F, m, h1, h2, h3, h4, h5, h6, h7, h8⟩ := h
  exact ⟨F, m, h1, h2, h3, h4, h5, h6, h7, fun b hb => h8 b (hX b hb)⟩
theorem TK.next (h : TK w W lb mb now T M X) (k : Below W.heap.size W w') (hX : ∀ b, X' b → X b ∨ (W.heap.size ≤ b ∧ b < w'.heap.size)) : TK w w' lb mb now T M X' := by
  obtain ⟨F, m, h1, h2, h3, h4, h5, h6, h7, h8⟩ := h
  refine ⟨F, m, h1.next k, h2, h3, h4, h5.next k, h6, h7.next k, fun b hb => ?_⟩
  rcases hX b hb with e | e
  · exact ⟨(h8 b e).1, (h8 b e).2.1, Nat.lt_of_lt_of_le (h8 b e).2.2 k.size⟩
  · have := h5.lt
    exact ⟨fun hF => by have := h1.lt b hF; omega, by omega, e.2⟩
theorem TK.chg {G : Nat → Prop} (h : TK w W lb mb now T M X) (k : Chg G W w') (hG : ∀ b, G b → X b ∧ w.heap.size ≤ b) : TK w w' lb mb now T M X := by
  obtain ⟨F, m, h1, h2, h3, h4, h5, h6, h7, h8⟩ := h
  exact ⟨F, m, h1.chg k (fun b hF hg => (h8 b (hG b hg).1).1 hF), h2, h3, h4, h5.chg k (fun hg => (h8 _ (hG _ hg).1).2.1 rfl), h6, Chg.below_of h7 k h7.size (fun b hb => (hG b hb).2), fun b hb => ⟨(h8 b hb).1, (h8 b hb).2.1, Nat.lt_of_lt_of_le (h8 b hb).2.2 k.size⟩⟩
theorem TK.op {F F' : Nat → Prop} {m : List (Int × Value)} {n' : Int} {T' : List Tr} (h2 : ∀ b, F b → w.heap.size ≤ b) (h3 : w.heap.size ≤ mb) (h4 : ¬ F mb) (h5 : GMap intKey W mb m) (h6 : m.Perm (pm M)) (h7 : Below w.heap.size w W) (h8 : ∀ b, X b → ¬ F b ∧ b ≠ mb ∧ b < W.heap.size)
    (q1 : DueT w' F' lb 1000 n' T') (q2 : ∀ b, F' b → F b ∨ W.heap.size ≤ b) (q3 : Chg F W w') : TK w w' lb mb n' T' M X ∧ Chg (fun b => ¬ X b) W w' := by
  refine ⟨⟨F', m, q1, fun b hb => ?_, h3, fun hb => ?_, h5.chg q3 h4, h6, Chg.below_of h7 q3 h7.size h2, fun b hb => ⟨fun hF => ?_, (h8 b hb).2.1, Nat.lt_of_lt_of_le (h8 b hb).2.2 q3.size⟩⟩, q3.mono (fun b hF hX => (h8 b hX).1 hF)⟩
  · rcases q2 b hb with e | e
    · exact h2 b e
    · exact Nat.le_trans h7.size e
  · rcases q2 mb hb with e | e
    · exact h4 e
    · have := h5.lt; omega
  · rcases q2 b hF with e | e
    · exact (h8 b hb).1 e
    · have := (h8 b hb).2.2; omega
theorem tk_set (h : TK w W lb mb now T M X) (hl : T.length ≤ 5000) (h0 : 0 ≤ now) (h1 : now ≤ 1000000) (key at_ : Int) :
    Calls Try.prog 19 #[.pointer (some ⟨lb, 0, none⟩), .int .i64 key, .int .i64 at_] W fun e w' => e = .returned (.int .i64 (setT 1000 now T key at_).1) ∧ TK w w' lb mb (setT 1000 now T key at_).2.1 (setT 1000 now T key at_).2.2 M X ∧ Chg (fun b => ¬ X b) W w' := by
  obtain ⟨F, m, g1, g2, g3, g4, g5, g6, g7, g8⟩ := h
  refine (tset_any F lb 1000 now T key at_ W g1 hl h0 h1).mono ?_
  rintro e w' ⟨F', rfl, q1, q2, q3⟩
  exact ⟨rfl, TK.op g2 g3 g4 g5 g6 g7 g8 q1 q2 q3⟩
theorem tk_stop (h : TK w W lb mb now T M X) (hl : T.length ≤ 5000) (key : Int) :
    Calls Try.prog 21 #[.pointer (some ⟨lb, 0, none⟩), .int .i64 key] W fun e w' => e = .returned (.bool (keyT T key).isSome) ∧ TK w w' lb mb now (dropT T key) M X ∧ Chg (fun b => ¬ X b) W w' := by
  obtain ⟨F, m, g1, g2, g3, g4, g5, g6, g7, g8⟩ := h
  refine (tstop_any F lb 1000 now T key W g1 hl).mono ?_
  rintro e w' ⟨F', rfl, q1, q2, q3⟩
  exact ⟨rfl, TK.op g2 g3 g4 g5 g6 g7 g8 q1 q2 q3⟩
theorem tk_take (h : TK w W lb mb now T M X) (hl : T.length ≤ 5000) (t : Int) :
    Calls Try.prog 25 #[.pointer (some ⟨lb, 0, none⟩), .int .i64 t] W fun e w' => ∃ A c, e = .returned (.slice A (kaT (takeT T t)).length c) ∧
      TK w w' lb mb now (restT T t) M (fun b => X b ∨ (W.heap.size ≤ b ∧ (Value.slice A (kaT (takeT T t)).length c).ownBlock = some b)) ∧ Rd w' (fun b => W.heap.size ≤ b ∧ (Value.slice A (kaT (takeT T t)).length c).ownBlock = some b) 2 A (kaT (takeT T t)).length ((kaT (takeT T t)).flatMap ka) ∧ Chg (fun b => ¬ X b) W w' := by
  obtain ⟨F, m, g1, g2, g3, g4, g5, g6, g7, g8⟩ := h
  refine (ttake_any F lb 1000 now T t W g1 hl).mono ?_
  rintro e w' ⟨v, F', rfl, q0, q1, q2, q3, q4⟩
  obtain ⟨A, c, rfl⟩ := own_form q0
  have r := TK.op g2 g3 g4 g5 g6 g7 g8 q1 q2 q3
  obtain ⟨A', c', e', _, _, hr⟩ := Kas.of_own q0
  injection e' with e1 _ e2
  subst e1 e2
  refine ⟨A, c, rfl, ⟨F', m, q1, fun b hb => ?_, g3, fun hb => ?_, g5.chg q3 g4, g6, r.1.below, fun b hb => ?_⟩, hr.more (fun b _ hb => ⟨(q0.lt b hb).1, hb⟩), r.2⟩
  · rcases q2 b hb with e | e
    · exact g2 b e
    · exact Nat.le_trans g7.size e
  · rcases q2 mb hb with e | e
    · exact g4 e
    · have := g5.lt; omega
  · rcases hb with hb | hb
    · refine ⟨fun hF => ?_, (g8 b hb).2.1, Nat.lt_of_lt_of_le (g8 b hb).2.2 q3.size⟩
      rcases q2 b hF with e | e
      · exact (g8 b hb).1 e
      · have := (g8 b hb).2.2; omega
    · have := g5.lt
      exact ⟨fun hF => q4 b hF hb.2, by omega, (q0.lt b hb.2).2⟩
theorem tk_all (h : TK w W lb mb now T M X) (hl : T.length ≤ 5000) :
    Calls Try.prog 29 #[.pointer (some ⟨lb, 0, none⟩)] W fun e w' => ∃ A c, e = .returned (.slice A T.length c) ∧ TK w w' lb mb now T M X ∧ Below W.heap.size W w' := by
  obtain ⟨F, m, g1, g2, g3, g4, g5, g6, g7, g8⟩ := id h
  refine (tall_any F lb 1000 now T W g1 hl).mono ?_
  rintro e w' ⟨v, rfl, q1, q2⟩
  obtain ⟨A, c, rfl⟩ := own_form q1
  exact ⟨A, c, by unfold kaT; rw [List.length_map], h.next q2 (fun b hb => .inl hb), q2⟩
/-- The map, and what becomes of all when it is stored into. -/
theorem TK.map (h : TK w W lb mb now T M X) : ∃ m, GMap intKey W mb m ∧ m.Perm (pm M) ∧ ∀ m' w' M', GMap intKey w' mb m' → Chg (fun i => i = mb) W w' → m'.Perm (pm M') → TK w w' lb mb now T M' X ∧ Chg (fun b => ¬ X b) W w' := by
  obtain ⟨F, m, g1, g2, g3, g4, g5, g6, g7, g8⟩ := h
  refine ⟨m, g5, g6, fun m' w' M' hm k hp => ⟨⟨F, m', g1.chg k (fun b hF e => g4 (e ▸ hF)), g2, g3, g4, hm, hp, Chg.below_of g7 k g7.size (fun b e => e ▸ g3), fun b hb => ⟨(g8 b hb).1, (g8 b hb).2.1, Nat.lt_of_lt_of_le (g8 b hb).2.2 k.size⟩⟩, k.mono (fun b e hX => (g8 b hX).2.1 e)⟩⟩
end
end Go.Proofs.Ytllkeifldfmbkaa
