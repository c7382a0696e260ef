/- '==' of writes and of clocks. -/
import Derived.Test.YtllkeifldfmbkaaChecked
import Derived.Test.YtllkeifldfmbkaaData
import Derived.Laws.StructEq
namespace Go.Proofs.Ytllkeifldfmbkaa
open Go.RowKit

def eqWr (x y : Wr) : Bool := x.key.toList == y.key.toList && (x.val.toList == y.val.toList && x.gone == y.gone)
theorem equalIn_wr (d : Nat) (x y : Wr) (w : World) : (Op.equalIn (d + 2) 88 (wrVal x) (wrVal y)).run Try.prog w = .ok (eqWr x y) w := by
  unfold wrVal eqWr
  have hu : Try.prog.fieldsOf 88 = #[⟨"Key", 9, 0, false, "", "", 0⟩, ⟨"Value", 9, 1, false, "", "", 16⟩, ⟨"Gone", 4, 2, false, "", "", 32⟩] := by kernel_rfl
  rw [run_equalIn_struct (P := Try.prog) w (d + 1) 88 _ _ (by kernel_rfl) (by kernel_rfl), hu]
  have p0 : ∀ (a b c : Value), (part 9 #[a, b, c] 0).run Try.prog w = .ok a w := fun _ _ _ => by kernel_rfl
  have p1 : ∀ (a b c : Value), (part 9 #[a, b, c] 1).run Try.prog w = .ok b w := fun _ _ _ => by kernel_rfl
  have p2 : ∀ (a b c : Value), (part 4 #[a, b, c] 2).run Try.prog w = .ok c w := fun _ _ _ => by kernel_rfl
  have e1 := fun (a b : ByteArray) => run_equalIn_string (P := Try.prog) w d 9 a b Try.underlying9
  have e2 := fun (a b : Bool) => run_equalIn_bool' (P := Try.prog) w d 4 a b Try.underlying4
  cases h1 : (x.key.toList == y.key.toList) <;> cases h2 : (x.val.toList == y.val.toList) <;> cases h3 : (x.gone == y.gone) <;>
    simp only [Op.eqFields, Sem.run_bind, Sem.run_ite, p0, p1, p2, e1, e2, Result.andThen_ok, h1, h2, h3, ne_eq, Sem.run_pure] <;> simp

theorem eql_wr (x y : Wr) (w : World) : (binOp .eql 88 (wrVal x) (wrVal y)).run Try.prog w = .ok (.bool (eqWr x y)) w := by
  have := equalIn_wr 9998 x y w
  simp only [binOp, Op.equal, Op.maxDepth, Sem.run_bind, this, Result.andThen_ok, Sem.run_pure]
theorem neq_wr (x y : Wr) (w : World) : (binOp .neq 88 (wrVal x) (wrVal y)).run Try.prog w = .ok (.bool (!eqWr x y)) w := by
  have := equalIn_wr 9998 x y w
  simp only [binOp, Op.equal, Op.maxDepth, Sem.run_bind, this, Result.andThen_ok, Sem.run_pure]

theorem equalIn_clock (d : Nat) (a b c a' b' c' : Int) (w : World) :
    (Op.equalIn (d + 2) 31 (.agg #[.int .i64 a, .int .i64 b, .int .i64 c]) (.agg #[.int .i64 a', .int .i64 b', .int .i64 c'])).run Try.prog w = .ok (a == a' && (b == b' && c == c')) w := by
  have e1 := fun (a b : Int) => run_equalIn_int (P := Try.prog) w d 2 .i64 .i64 a b Try.underlying2
  have hu := run_underlying (P := Try.prog) (w := w) Try.underlying31
  have hs : (sizeOf 2).run Try.prog w = .ok 1 w := by kernel_rfl
  have p0 : ∀ (a b c : Value), (part 2 #[a, b, c] 0).run Try.prog w = .ok a w := fun _ _ _ => by kernel_rfl
  have p1 : ∀ (a b c : Value), (part 2 #[a, b, c] 1).run Try.prog w = .ok b w := fun _ _ _ => by kernel_rfl
  have p2 : ∀ (a b c : Value), (part 2 #[a, b, c] 2).run Try.prog w = .ok c w := fun _ _ _ => by kernel_rfl
  rw [Op.equalIn]
  simp only [Sem.run_bind, hu, Result.andThen_ok, hs]
  simp only [Std.Legacy.Range.forIn_eq_forIn_range', Std.Legacy.Range.size, Nat.sub_zero, Nat.add_sub_cancel, Nat.div_one]
  simp only [List.range'_succ, List.range'_zero, List.forIn_cons, List.forIn_nil, Nat.mul_one, Nat.reduceAdd, Nat.zero_add, Sem.run_bind, Sem.run_ite, p0, e1, Result.andThen_ok]
  cases h1 : (a == a')
  · simp
  · cases h2 : (b == b')
    · simp [p1, e1, h2]
    · cases h3 : (c == c') <;> simp [p1, p2, e1, h2, h3]
theorem eql_clock (a b c a' b' c' : Int) (w : World) : (binOp .eql 31 (.agg #[.int .i64 a, .int .i64 b, .int .i64 c]) (.agg #[.int .i64 a', .int .i64 b', .int .i64 c'])).run Try.prog w = .ok (.bool (a == a' && (b == b' && c == c'))) w := by
  have := equalIn_clock 9998 a b c a' b' c' w
  simp only [binOp, Op.equal, Op.maxDepth, Sem.run_bind, this, Result.andThen_ok, Sem.run_pure]
theorem neq_clock (a b c a' b' c' : Int) (w : World) : (binOp .neq 31 (.agg #[.int .i64 a, .int .i64 b, .int .i64 c]) (.agg #[.int .i64 a', .int .i64 b', .int .i64 c'])).run Try.prog w = .ok (.bool (!(a == a' && (b == b' && c == c')))) w := by
  have := equalIn_clock 9998 a b c a' b' c' w
  simp only [binOp, Op.equal, Op.maxDepth, Sem.run_bind, this, Result.andThen_ok, Sem.run_pure]
end Go.Proofs.Ytllkeifldfmbkaa
