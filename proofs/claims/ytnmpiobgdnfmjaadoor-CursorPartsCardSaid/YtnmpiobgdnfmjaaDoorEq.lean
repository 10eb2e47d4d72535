/- '==' and '!=' of entries. -/
import Derived.Test.YtnmpiobgdnfmjaaDoorEnt
import Derived.Laws.StructEq
namespace Go.Proofs.YtnmpiobgdnfmjaaDoor
open Go Go.RowKit

def eqEB (x y : Ent) : Bool := (x.key.toList == y.key.toList) && ((x.seq == y.seq) && ((x.del == y.del) && (x.val.toList == y.val.toList)))
theorem run_eqlE (x y : Ent) (w : World) : (binOp .eql 30 x.v y.v).run Tryd.prog w = .ok (.bool (eqEB x y)) w := by
  have u9 := Tryd.underlying9
  have a9 := Tryd.isAgg9
  have z9 := Tryd.sizeOf9
  have u4 := Tryd.underlying4
  have a4 := Tryd.isAgg4
  have z4 := Tryd.sizeOf4
  have u28 := Tryd.underlying28
  have a28 := Tryd.isAgg28
  have z28 := Tryd.sizeOf28
  have hS : Tryd.prog.underlying 30 = some (.struct (Tryd.prog.fieldsOf 30)) := by kernel_rfl
  have hp : Tryd.prog.stoodInHeld 30 = false := by kernel_rfl
  rw [run_eql_struct, show (10000 : Nat) = 9999 + 1 from rfl, run_equalIn_agg w 9999 30 _ _ hS hp]
  simp only [Program.fieldsOf, Tryd.underlying30]
  go_simp
  unfold eqEB
  by_cases h1 : x.key.toList = y.key.toList <;> by_cases h2 : x.seq = y.seq <;> by_cases h3 : x.del = y.del <;> by_cases h4 : x.val.toList = y.val.toList <;> simp [h1, h2, h3, h4]
theorem run_neqE (x y : Ent) (w : World) : (binOp .neq 30 x.v y.v).run Tryd.prog w = .ok (.bool (!eqEB x y)) w := by
  have h := run_eqlE x y w
  rw [run_eql_struct] at h
  rw [run_neq_struct]
  generalize (Op.equalIn 10000 30 (.agg #[.string x.key, .int .u64 x.seq, .bool x.del, .string x.val]) (.agg #[.string y.key, .int .u64 y.seq, .bool y.del, .string y.val])).run Tryd.prog w = r at h ⊢
  cases r with
  | ok b w' =>
    simp only [Result.andThen_ok, Result.ok.injEq, Value.bool.injEq] at h ⊢
    obtain ⟨rfl, rfl⟩ := h
    exact ⟨rfl, rfl⟩
  | halt a b => cases h
theorem eqEB_self (x : Ent) : eqEB x x = true := by unfold eqEB; simp
theorem run_guardE (op : BinOp) (a b : Operand) (xs ys : Array Value) (w : World) : (eqGuard op 30 a b (.agg xs) (.agg ys)).run Tryd.prog w = .ok () w := run_eqGuard_agg w op 30 a b xs ys (by kernel_rfl)
end Go.Proofs.YtnmpiobgdnfmjaaDoor
