/- Layer 12: the list of what is due, told as triples (key, tick, when it was set). -/
import Derived.Test.YtllkeifldfmbkaaDueX
import Derived.Test.YtllkeifldfmbkaaDueZ
namespace Go.Proofs.Ytllkeifldfmbkaa
open Go.RowKit

abbrev Tr := Int × Int × Int
def keyT (T : List Tr) (k : Int) : Option Tr := T.find? (fun x => decide (k = x.1))
def dropT (T : List Tr) (k : Int) : List Tr := T.filter (fun x => !decide (k = x.1))
def insT (x : Tr) : List Tr → List Tr
  | [] => [x]
  | y :: r => if y.2.1 ≤ x.2.1 then y :: insT x r else x :: y :: r
def takeT (T : List Tr) (t : Int) : List Tr := T.takeWhile (fun x => decide (x.2.1 ≤ t))
def restT (T : List Tr) (t : Int) : List Tr := T.dropWhile (fun x => decide (x.2.1 ≤ t))
def kaT (T : List Tr) : List (Int × Int) := T.map (fun p => (p.1, p.2.1))
/-- What Set answers, the count of settings behind it, and the list. -/
def setT (most now : Int) (T : List Tr) (key at_ : Int) : Int × Int × List Tr :=
  if key < 0 ∨ at_ < 0 then (1, now, T) else if keyT T key = none ∧ (T.length : Int) = most then (7, now, T) else (0, now + 1, insT (key, at_, now + 1) (dropT T key))

theorem ins_strip (x : Nd) : ∀ L : List Nd, (insL x L).map strip = insT (strip x) (L.map strip)
  | [] => rfl
  | y :: r => by
    simp only [insL, List.map_cons, insT]
    have : (strip y).2.1 = y.at_ ∧ (strip x).2.1 = x.at_ := ⟨rfl, rfl⟩
    rw [this.1, this.2]
    split
    · rw [List.map_cons, ins_strip x r]
    · rfl
theorem drop_strip (L : List Nd) (k : Int) : (dropL L k).map strip = dropT (L.map strip) k := by
  unfold dropL dropT; rw [List.filter_map]; rfl
theorem key_strip (L : List Nd) (k : Int) : (keyL L k).map strip = keyT (L.map strip) k := by
  unfold keyL keyT; rw [List.find?_map]; rfl
theorem take_strip (L : List Nd) (t : Int) : (takeL L t).map strip = takeT (L.map strip) t := by
  unfold takeL takeT
  induction L with
  | nil => rfl
  | cons x L ih =>
    simp only [List.takeWhile_cons, List.map_cons]
    have : (strip x).2.1 = x.at_ := rfl
    rw [this]
    split
    · rw [List.map_cons, ih]
    · rfl
theorem rest_strip (L : List Nd) (t : Int) : (restL L t).map strip = restT (L.map strip) t := by
  unfold restL restT
  induction L with
  | nil => rfl
  | cons x L ih =>
    simp only [List.dropWhile_cons, List.map_cons]
    have : (strip x).2.1 = x.at_ := rfl
    rw [this]
    split
    · exact ih
    · rfl
theorem ka_strip (L : List Nd) : kaL L = kaT (L.map strip) := by unfold kaL kaT; rw [List.map_map]; rfl

def DueT (w : World) (F : Nat → Prop) (lb : Nat) (most now : Int) (T : List Tr) : Prop := ∃ L, DueS w F lb most now L ∧ L.map strip = T
theorem DueT.chg {w w' : World} {F G : Nat → Prop} {lb : Nat} {most now : Int} {T : List Tr} (h : DueT w F lb most now T) (k : Chg G w w') (hF : ∀ b, F b → ¬ G b) : DueT w' F lb most now T := by
  obtain ⟨L, h1, h2⟩ := h
  exact ⟨L, h1.chg k hF, h2⟩
theorem DueT.next {w w' : World} {F : Nat → Prop} {lb : Nat} {most now : Int} {T : List Tr} (h : DueT w F lb most now T) (k : Below w.heap.size w w') : DueT w' F lb most now T := h.chg (Chg.of_below (F := fun _ => False) k) (fun _ _ => id)
theorem DueT.lt {w : World} {F : Nat → Prop} {lb : Nat} {most now : Int} {T : List Tr} (h : DueT w F lb most now T) : ∀ b, F b → b < w.heap.size := by
  obtain ⟨L, h1, _⟩ := h
  exact h1.lt
theorem DueT.facts {w : World} {F : Nat → Prop} {lb : Nat} {most now : Int} {T : List Tr} (h : DueT w F lb most now T) : (T.map (·.1)).Nodup ∧ T.Pairwise (fun a b => a.2.1 ≤ b.2.1) ∧ ∀ x ∈ T, 0 ≤ x.1 ∧ 0 ≤ x.2.1 := by
  obtain ⟨L, h1, rfl⟩ := h
  refine ⟨by rw [List.map_map]; exact h1.keys, ?_, fun x hx => ?_⟩
  · rw [List.pairwise_map]
    exact h1.sorted.imp (fun {a b} h => by unfold Nd.lt at h; show a.at_ ≤ b.at_; omega)
  · obtain ⟨y, hy, rfl⟩ := List.mem_map.1 hx
    exact (h1.ok y hy).2
theorem tnew_ok (most : Int) (w : World) (h0 : 0 ≤ most) (h1 : most ≤ 1000) : Calls Try.prog 17 #[.int .i64 most] w fun e w' => ∃ lb F, e = .returned (.tuple #[.pointer (some ⟨lb, 0, none⟩), .int .i64 0]) ∧ DueT w' F lb most 0 [] ∧ (∀ b, F b → w.heap.size ≤ b) ∧ Below w.heap.size w w' := by
  refine (dnew_ok most w h0 h1).mono ?_
  rintro e w' ⟨lb, rfl, ⟨F, h1, h2⟩, h3⟩
  exact ⟨lb, F, rfl, ⟨[], h1, rfl⟩, h2, h3⟩
def TSet (w : World) (F : Nat → Prop) (lb : Nat) (most now : Int) (T : List Tr) (key at_ : Int) (e : Ending) (w' : World) : Prop :=
  ∃ F', e = .returned (.int .i64 (setT most now T key at_).1) ∧ DueT w' F' lb most (setT most now T key at_).2.1 (setT most now T key at_).2.2 ∧ (∀ b, F' b → F b ∨ w.heap.size ≤ b) ∧ Chg F w w'
theorem tset_any (F : Nat → Prop) (lb : Nat) (most now : Int) (T : List Tr) (key at_ : Int) (w : World) (h : DueT w F lb most now T) (hl : T.length ≤ 5000) (hw0 : 0 ≤ now) (hw1 : now ≤ 1000000) :
    Calls Try.prog 19 #[.pointer (some ⟨lb, 0, none⟩), .int .i64 key, .int .i64 at_] w (TSet w F lb most now T key at_) := by
  obtain ⟨L, hD, rfl⟩ := h
  rw [List.length_map] at hl
  refine (dset_all F lb most now L key at_ w hD hl hw0 hw1).mono ?_
  rintro e w' ⟨r, L', now', F', rfl, h1, h2, h3, hc⟩
  have hkn : keyT (L.map strip) key = none ↔ keyL L key = none := by rw [← key_strip]; simp
  refine ⟨F', ?_, ?_, h2, h3⟩
  · rcases hc with ⟨hb, rfl, _⟩ | ⟨ha, hb, hn, hm, rfl, _⟩ | ⟨ha, hb, hn, rfl, _⟩
    · unfold setT; rw [if_pos hb]
    · unfold setT; rw [if_neg (by omega), if_pos ⟨hkn.2 hn, by rw [List.length_map]; exact hm⟩]
    · unfold setT; rw [if_neg (by omega), if_neg (fun e => hn ⟨hkn.1 e.1, by have := e.2; rwa [List.length_map] at this⟩)]
  · rcases hc with ⟨hb, _, rfl, rfl⟩ | ⟨ha, hb, hn, hm, _, rfl, rfl⟩ | ⟨ha, hb, hn, _, rfl, nb, rfl⟩
    · unfold setT; rw [if_pos hb]; exact ⟨_, h1, rfl⟩
    · unfold setT; rw [if_neg (by omega), if_pos ⟨hkn.2 hn, by rw [List.length_map]; exact hm⟩]; exact ⟨_, h1, rfl⟩
    · unfold setT; rw [if_neg (by omega), if_neg (fun e => hn ⟨hkn.1 e.1, by have := e.2; rwa [List.length_map] at this⟩)]
      exact ⟨_, h1, by rw [ins_strip, drop_strip]; rfl⟩
def TStop (w : World) (F : Nat → Prop) (lb : Nat) (most now : Int) (T : List Tr) (key : Int) (e : Ending) (w' : World) : Prop :=
  ∃ F', e = .returned (.bool (keyT T key).isSome) ∧ DueT w' F' lb most now (dropT T key) ∧ (∀ b, F' b → F b ∨ w.heap.size ≤ b) ∧ Chg F w w'
theorem tstop_any (F : Nat → Prop) (lb : Nat) (most now : Int) (T : List Tr) (key : Int) (w : World) (h : DueT w F lb most now T) (hl : T.length ≤ 5000) :
    Calls Try.prog 21 #[.pointer (some ⟨lb, 0, none⟩), .int .i64 key] w (TStop w F lb most now T key) := by
  obtain ⟨L, hD, rfl⟩ := h
  rw [List.length_map] at hl
  refine (dstop_any F lb most now L key w hD (by omega)).mono ?_
  rintro e w' ⟨rfl, F', h1, h2, h3⟩
  refine ⟨F', ?_, ⟨_, h1, drop_strip L key⟩, h2, h3⟩
  rw [← key_strip, Option.isSome_map]
def atT (o : Option Tr) : Value := match o with | some x => .tuple #[.int .i64 x.2.1, .bool true] | none => .tuple #[.int .i64 0, .bool false]
theorem tat_any (F : Nat → Prop) (lb : Nat) (most now : Int) (T : List Tr) (key : Int) (w : World) (h : DueT w F lb most now T) :
    Calls Try.prog 27 #[.pointer (some ⟨lb, 0, none⟩), .int .i64 key] w fun e w' => e = .returned (atT (keyT T key)) ∧ w = w' := by
  obtain ⟨L, hD, rfl⟩ := h
  refine (dat_any F lb most now L key w hD).mono ?_
  rintro e w' ⟨rfl, h2⟩
  refine ⟨?_, h2⟩
  rw [← key_strip]
  cases keyL L key <;> rfl
def TTake (w : World) (F : Nat → Prop) (lb : Nat) (most now : Int) (T : List Tr) (t : Int) (e : Ending) (w' : World) : Prop :=
  ∃ v F', e = .returned v ∧ w'.ownsRow w.heap.size 72 2 v (kaT (takeT T t)).length ((kaT (takeT T t)).flatMap ka) ∧ DueT w' F' lb most now (restT T t) ∧ (∀ b, F' b → F b ∨ w.heap.size ≤ b) ∧ Chg F w w' ∧ (∀ b, F' b → v.ownBlock ≠ some b)
theorem ttake_any (F : Nat → Prop) (lb : Nat) (most now : Int) (T : List Tr) (t : Int) (w : World) (h : DueT w F lb most now T) (hl : T.length ≤ 5000) :
    Calls Try.prog 25 #[.pointer (some ⟨lb, 0, none⟩), .int .i64 t] w (TTake w F lb most now T t) := by
  obtain ⟨L, hD, rfl⟩ := h
  rw [List.length_map] at hl
  refine (dtake_any F lb most now L t w hD hl).mono ?_
  rintro e w' ⟨v, F', rfl, h1, h2, h3, h4⟩
  have hf := h2.far h1 (by decide) (by decide) (by decide)
  refine ⟨v, F', rfl, ?_, ⟨_, h2, rest_strip L t⟩, h3, h4, hf⟩
  rw [dueCells_ka, ka_strip, take_strip] at h1
  have e : (takeL L t).length = (kaT (takeT (L.map strip) t)).length := by rw [← take_strip, ← ka_strip]; simp [kaL]
  rwa [e] at h1
def TAll (w : World) (T : List Tr) (e : Ending) (w' : World) : Prop := ∃ v, e = .returned v ∧ w'.ownsRow w.heap.size 72 2 v (kaT T).length ((kaT T).flatMap ka) ∧ Below w.heap.size w w'
theorem tall_any (F : Nat → Prop) (lb : Nat) (most now : Int) (T : List Tr) (w : World) (h : DueT w F lb most now T) (hl : T.length ≤ 5000) :
    Calls Try.prog 29 #[.pointer (some ⟨lb, 0, none⟩)] w (TAll w T) := by
  obtain ⟨L, hD, rfl⟩ := h
  rw [List.length_map] at hl
  refine (dall_any F lb most now L w hD hl).mono ?_
  rintro e w' ⟨v, rfl, h1, h2⟩
  refine ⟨v, rfl, ?_, h2⟩
  rw [dueCells_ka, ka_strip] at h1
  have e : L.length = (kaT (L.map strip)).length := by simp [kaT]
  rwa [e] at h1
theorem insT_len (x : Tr) : ∀ T, (insT x T).length = T.length + 1
  | [] => rfl
  | y :: r => by
    simp only [insT]
    split
    · simp [insT_len x r]
    · rfl
theorem setT_len (most now : Int) (T : List Tr) (key at_ : Int) : (setT most now T key at_).2.2.length ≤ T.length + 1 ∧ (setT most now T key at_).2.1 ≤ now + 1 ∧ now ≤ (setT most now T key at_).2.1 := by
  unfold setT
  split
  · exact ⟨Nat.le_succ _, by simp only []; omega, by simp only []; omega⟩
  · split
    · exact ⟨Nat.le_succ _, by simp only []; omega, by simp only []; omega⟩
    · refine ⟨?_, by simp only []; omega, by simp only []; omega⟩
      rw [insT_len]
      have := List.length_filter_le (fun x : Tr => !decide (key = x.1)) T
      simp only [dropT]; omega
end Go.Proofs.Ytllkeifldfmbkaa
