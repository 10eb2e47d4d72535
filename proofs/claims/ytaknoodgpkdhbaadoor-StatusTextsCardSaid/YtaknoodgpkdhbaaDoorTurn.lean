/- The contract of sha.turn: it only computes. -/
import Derived.Test.YtaknoodgpkdhbaaDoorRows
import Derived.WalkKit
import Derived.WalkSpells
import Derived.WalkLawsBesides
import Derived.Deep.QuietTactic
import Derived.BigQuiet
import Derived.Outline
namespace Go.Proofs.YtaknoodgpkdhbaaDoor
open Go.RowKit

/-- a number turned to the right -/
def trn (x n : Int) : Int := bits BinOp.or IntKind.u32 (x / 2 ^ n.toNat) (x * 2 ^ (32 - n).toNat % 4294967296)

set_option maxHeartbeats 400000 in
theorem turn_any (x n : Int) (w : World) (h0 : 1 ≤ n) (h1 : n ≤ 31) :
    Calls Tryd.prog 20 #[.int .u32 x, .int .i64 n] w fun e w' => e = .returned (.int .u32 (trn x n)) ∧ ∃ m, w' = w.drewN m := by
  go_enter Tryd.func20, Tryd.ntmps20
  go_wp2
  go_quiet (fail)
  go_wp2
  go_ret
  exact ⟨rfl, nq, rfl⟩
end Go.Proofs.YtaknoodgpkdhbaaDoor
