/- Go's == on pairs and routes, as one Bool. -/
import Derived.Test.YtdecgbgndffkkaaEq
import Derived.Test.YtdecgbgndffkkaaSl
set_option linter.unusedVariables false
set_option linter.unusedSimpArgs false
namespace Go.Proofs.Ytdecgbgndffkkaa
open Go.RowKit

def eqPr (x y : Px × Int) : Bool := decide (x = y)
theorem eqPr_iff (x y : Px × Int) : eqPr x y = true ↔ x = y := by simp [eqPr]

theorem eqPair_run (h1 l1 h2 l2 : BitVec 64) (v1 v2 : Bool) (n1 n2 u1 u2 : Int) (w : World) :
    (binOp .eql 39 (.agg #[.int .u64 (h1.toNat : Int), .int .u64 (l1.toNat : Int), .bool v1, .int .i64 n1, .int .i64 u1]) (.agg #[.int .u64 (h2.toNat : Int), .int .u64 (l2.toNat : Int), .bool v2, .int .i64 n2, .int .i64 u2])).run Try.prog w =
      .ok (.bool (eqPr (⟨⟨h1, l1, v1⟩, n1⟩, u1) (⟨⟨h2, l2, v2⟩, n2⟩, u2))) w := by
  have b1 := bI_beq h1 h2
  have b2 := bI_beq l1 l2
  by_cases e1 : h1 = h2 <;> by_cases e2 : l1 = l2 <;> by_cases e3 : v1 = v2 <;> by_cases e4 : n1 = n2 <;> by_cases e5 : u1 = u2 <;> simp only [e1, e2, e3, decide_true, decide_false] at b1 b2 <;> simp [eqPr, go_sem, b1, b2, e1, e2, e3, e4, e5]
theorem eqRoute_run (h1 l1 h2 l2 : BitVec 64) (v1 v2 : Bool) (n1 n2 u1 u2 : Int) (w : World) :
    (binOp .eql 48 (.agg #[.int .u64 (h1.toNat : Int), .int .u64 (l1.toNat : Int), .bool v1, .int .i64 n1, .int .i64 u1]) (.agg #[.int .u64 (h2.toNat : Int), .int .u64 (l2.toNat : Int), .bool v2, .int .i64 n2, .int .i64 u2])).run Try.prog w =
      .ok (.bool (eqPr (⟨⟨h1, l1, v1⟩, n1⟩, u1) (⟨⟨h2, l2, v2⟩, n2⟩, u2))) w := by
  have b1 := bI_beq h1 h2
  have b2 := bI_beq l1 l2
  by_cases e1 : h1 = h2 <;> by_cases e2 : l1 = l2 <;> by_cases e3 : v1 = v2 <;> by_cases e4 : n1 = n2 <;> by_cases e5 : u1 = u2 <;> simp only [e1, e2, e3, decide_true, decide_false] at b1 b2 <;> simp [eqPr, go_sem, b1, b2, e1, e2, e3, e4, e5]
theorem neqRoute_run (h1 l1 h2 l2 : BitVec 64) (v1 v2 : Bool) (n1 n2 u1 u2 : Int) (w : World) :
    (binOp .neq 48 (.agg #[.int .u64 (h1.toNat : Int), .int .u64 (l1.toNat : Int), .bool v1, .int .i64 n1, .int .i64 u1]) (.agg #[.int .u64 (h2.toNat : Int), .int .u64 (l2.toNat : Int), .bool v2, .int .i64 n2, .int .i64 u2])).run Try.prog w =
      .ok (.bool (!eqPr (⟨⟨h1, l1, v1⟩, n1⟩, u1) (⟨⟨h2, l2, v2⟩, n2⟩, u2))) w := by
  have b1 := bI_beq h1 h2
  have b2 := bI_beq l1 l2
  by_cases e1 : h1 = h2 <;> by_cases e2 : l1 = l2 <;> by_cases e3 : v1 = v2 <;> by_cases e4 : n1 = n2 <;> by_cases e5 : u1 = u2 <;> simp only [e1, e2, e3, decide_true, decide_false] at b1 b2 <;> simp [eqPr, go_sem, b1, b2, e1, e2, e3, e4, e5]
attribute [go_sem ↓] eqPair_run eqRoute_run neqRoute_run

end Go.Proofs.Ytdecgbgndffkkaa
