/- Go's == on the program's structs, as one Bool. -/
import Derived.Test.YtdecgbgndffkkaaB
import Derived.Laws.StructEq
set_option linter.unusedVariables false
set_option linter.unusedSimpArgs false
namespace Go.Proofs.Ytdecgbgndffkkaa
open Go.RowKit

theorem eqA_run (h1 l1 h2 l2 : BitVec 64) (v1 v2 : Bool) (w : World) :
    (binOp .eql 25 (.agg #[.int .u64 (h1.toNat : Int), .int .u64 (l1.toNat : Int), .bool v1]) (.agg #[.int .u64 (h2.toNat : Int), .int .u64 (l2.toNat : Int), .bool v2])).run Try.prog w =
      .ok (.bool (eqAd ⟨h1, l1, v1⟩ ⟨h2, l2, v2⟩)) w := by
  have b1 := bI_beq h1 h2
  have b2 := bI_beq l1 l2
  by_cases e1 : h1 = h2 <;> by_cases e2 : l1 = l2 <;> by_cases e3 : v1 = v2 <;> simp only [e1, e2, e3, decide_true, decide_false] at b1 b2 <;> simp [eqAd, eqPx, go_sem, b1, b2, e1, e2, e3]

theorem neqA_run (h1 l1 h2 l2 : BitVec 64) (v1 v2 : Bool) (w : World) :
    (binOp .neq 25 (.agg #[.int .u64 (h1.toNat : Int), .int .u64 (l1.toNat : Int), .bool v1]) (.agg #[.int .u64 (h2.toNat : Int), .int .u64 (l2.toNat : Int), .bool v2])).run Try.prog w =
      .ok (.bool (!eqAd ⟨h1, l1, v1⟩ ⟨h2, l2, v2⟩)) w := by
  have b1 := bI_beq h1 h2
  have b2 := bI_beq l1 l2
  by_cases e1 : h1 = h2 <;> by_cases e2 : l1 = l2 <;> by_cases e3 : v1 = v2 <;> simp only [e1, e2, e3, decide_true, decide_false] at b1 b2 <;> simp [eqAd, eqPx, go_sem, b1, b2, e1, e2, e3]

theorem eqP_run (h1 l1 h2 l2 : BitVec 64) (v1 v2 : Bool) (n1 n2 : Int) (w : World) :
    (binOp .eql 32 (.agg #[.int .u64 (h1.toNat : Int), .int .u64 (l1.toNat : Int), .bool v1, .int .i64 n1]) (.agg #[.int .u64 (h2.toNat : Int), .int .u64 (l2.toNat : Int), .bool v2, .int .i64 n2])).run Try.prog w =
      .ok (.bool (eqPx ⟨⟨h1, l1, v1⟩, n1⟩ ⟨⟨h2, l2, v2⟩, n2⟩)) w := by
  have b1 := bI_beq h1 h2
  have b2 := bI_beq l1 l2
  by_cases e1 : h1 = h2 <;> by_cases e2 : l1 = l2 <;> by_cases e3 : v1 = v2 <;> by_cases e4 : n1 = n2 <;> simp only [e1, e2, e3, decide_true, decide_false] at b1 b2 <;> simp [eqAd, eqPx, go_sem, b1, b2, e1, e2, e3, e4]

theorem neqP_run (h1 l1 h2 l2 : BitVec 64) (v1 v2 : Bool) (n1 n2 : Int) (w : World) :
    (binOp .neq 32 (.agg #[.int .u64 (h1.toNat : Int), .int .u64 (l1.toNat : Int), .bool v1, .int .i64 n1]) (.agg #[.int .u64 (h2.toNat : Int), .int .u64 (l2.toNat : Int), .bool v2, .int .i64 n2])).run Try.prog w =
      .ok (.bool (!eqPx ⟨⟨h1, l1, v1⟩, n1⟩ ⟨⟨h2, l2, v2⟩, n2⟩)) w := by
  have b1 := bI_beq h1 h2
  have b2 := bI_beq l1 l2
  by_cases e1 : h1 = h2 <;> by_cases e2 : l1 = l2 <;> by_cases e3 : v1 = v2 <;> by_cases e4 : n1 = n2 <;> simp only [e1, e2, e3, decide_true, decide_false] at b1 b2 <;> simp [eqAd, eqPx, go_sem, b1, b2, e1, e2, e3, e4]

attribute [go_sem ↓] eqA_run neqA_run eqP_run neqP_run

end Go.Proofs.Ytdecgbgndffkkaa
