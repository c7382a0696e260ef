/- Transactions as plain data, and how they lie in memory. -/
import Derived.Test.YtllkeifldfmbkaaWords
namespace Go.Proofs.Ytllkeifldfmbkaa
open Go.RowKit

structure Wr where
  key : ByteArray
  val : ByteArray
  gone : Bool

structure Tx where
  o : Int
  s : Int
  d0 : Int
  d1 : Int
  d2 : Int
  ws : List Wr

def wrCells (x : Wr) : List Value := [.string x.key, .string x.val, .bool x.gone]
abbrev wrVal (x : Wr) : Value := .agg #[.string x.key, .string x.val, .bool x.gone]
/-- The transaction t whose writes are the slice value v. -/
abbrev txVal (t : Tx) (v : Value) : Value := .agg #[.int .i64 t.o, .int .i64 t.s, .int .i64 t.d0, .int .i64 t.d1, .int .i64 t.d2, v]
def txCells (t : Tx) (v : Value) : List Value := [.int .i64 t.o, .int .i64 t.s, .int .i64 t.d0, .int .i64 t.d1, .int .i64 t.d2, v]

/-- The slice value v reads as the writes ws, in blocks that S allows. -/
def Ws (w : World) (S : Nat → Prop) (v : Value) (ws : List Wr) : Prop :=
  ∃ A c, v = .slice A ws.length c ∧ ws.length ≤ c ∧ c ≤ maxLen ∧ Rd w S 3 A ws.length (ws.flatMap wrCells)

theorem flat_len {α : Type} (f : α → List Value) (k : Nat) (hf : ∀ x, (f x).length = k) (l : List α) : (l.flatMap f).length = l.length * k := by
  induction l with
  | nil => simp
  | cons x r ih => simp [List.flatMap_cons, ih, hf, Nat.add_mul, Nat.add_comm]
theorem flat_get {α : Type} (f : α → List Value) (k : Nat) (hf : ∀ x, (f x).length = k) : ∀ (l : List α) (i j : Nat), j < k → (l.flatMap f)[i * k + j]? = (l[i]?).bind (fun x => (f x)[j]?)
  | [], i, j, _ => by simp
  | x :: r, 0, j, hj => by
    simp only [List.flatMap_cons, Nat.zero_mul, Nat.zero_add, List.getElem?_cons_zero, Option.bind_some]
    rw [List.getElem?_append_left (by rw [hf]; exact hj)]
  | x :: r, i + 1, j, hj => by
    simp only [List.flatMap_cons, List.getElem?_cons_succ]
    rw [List.getElem?_append_right (by rw [hf, Nat.add_mul]; omega), ← flat_get f k hf r i j hj]
    congr 1
    rw [hf, Nat.add_mul]; omega

theorem Ws.chg {w w' : World} {S F : Nat → Prop} {v : Value} {ws : List Wr} (h : Ws w S v ws) (k : Chg F w w') (hS : ∀ b, S b → ¬ F b) : Ws w' S v ws := by
  obtain ⟨A, c, e, h1, h2, h3⟩ := h
  exact ⟨A, c, e, h1, h2, h3.chg k hS⟩
theorem Ws.below {w w' : World} {S : Nat → Prop} {v : Value} {ws : List Wr} (h : Ws w S v ws) (k : Below w.heap.size w w') : Ws w' S v ws :=
  h.chg (Chg.of_below (F := fun _ => False) k) (fun _ _ => id)
theorem Ws.alloc {w : World} {S : Nat → Prop} {v : Value} {ws : List Wr} (h : Ws w S v ws) (o : Obj) : Ws (w.alloc o) S v ws :=
  h.chg (Chg.alloc (fun _ => False) w o) (fun _ _ => id)
theorem Ws.more {w : World} {S S' : Nat → Prop} {v : Value} {ws : List Wr} (h : Ws w S v ws) (hS : ∀ b, b < w.heap.size → S b → S' b) : Ws w S' v ws := by
  obtain ⟨A, c, e, h1, h2, h3⟩ := h
  exact ⟨A, c, e, h1, h2, h3.more hS⟩
/-- The three cells of a write. -/
theorem Rd.wr {w : World} {S : Nat → Prop} {A : Option Addr} {ws : List Wr} (h : Rd w S 3 A ws.length (ws.flatMap wrCells)) {k : Nat} {x : Wr} (hk : ws[k]? = some x) :
    ∃ b o, A = some ⟨b, o, none⟩ ∧ b < w.heap.size ∧ S b ∧ w.cell? ⟨b, o + k * 3, none⟩ = some (.string x.key) ∧ w.cell? ⟨b, o + k * 3 + 1, none⟩ = some (.string x.val) ∧ w.cell? ⟨b, o + k * 3 + 2, none⟩ = some (.bool x.gone) := by
  have hlt : k < ws.length := (List.getElem?_eq_some_iff.1 hk).1
  obtain ⟨b, o, e, hb, hs, hc⟩ := h.at_ hlt
  refine ⟨b, o, e, hb, hs, ?_, ?_, ?_⟩
  · have := hc 0 (by omega)
    rw [flat_get wrCells 3 (fun _ => rfl) ws k 0 (by omega), hk] at this
    exact this
  · have := hc 1 (by omega)
    rw [flat_get wrCells 3 (fun _ => rfl) ws k 1 (by omega), hk] at this
    exact this
  · have := hc 2 (by omega)
    rw [flat_get wrCells 3 (fun _ => rfl) ws k 2 (by omega), hk] at this
    exact this

theorem any_get {α : Type} {p : α → Bool} {l : List α} {k : Nat} {x : α} (hx : l[k]? = some x) (hp : p x = true) : l.any p = true := List.any_eq_true.2 ⟨x, List.mem_of_getElem? hx, hp⟩
theorem any_none {α : Type} {p : α → Bool} {l : List α} {k : Nat} (h : (l.take k).any p = false) (hk : l.length ≤ k) : l.any p = false := by
  rw [List.take_of_length_le hk] at h; exact h
theorem any_step {α : Type} {p : α → Bool} {l : List α} {k : Nat} {x : α} (h : (l.take k).any p = false) (hx : l[k]? = some x) : (l.take (k + 1)).any p = p x := by
  rw [List.take_add_one, hx, List.any_append, h]; simp

def maxNumber : Int := 4611686018427387903
def okN (n : Int) : Bool := decide (0 ≤ n) && decide (n ≤ 4611686018427387903)
def longB (x : Wr) : Bool := decide (64 < x.key.size) || decide (256 < x.val.size)
def badB (x : Wr) : Bool := x.gone && !(x.val.toList.isEmpty)
def Tx.dep (t : Tx) : Int := if t.o = 0 then t.d0 else if t.o = 1 then t.d1 else t.d2
/-- Why a transaction may not be: the error's number. -/
def check (t : Tx) : Int :=
  if t.o < 0 ∨ 3 ≤ t.o then 9
  else if t.s < 1 ∨ 4611686018427387903 < t.s ∨ (okN t.d0 && okN t.d1 && okN t.d2) = false then 1
  else if t.dep ≠ t.s - 1 then 11
  else if 16 < t.ws.length ∨ t.ws.any longB = true then 4
  else if t.ws.any badB = true then 3
  else 0
end Go.Proofs.Ytllkeifldfmbkaa
