/- Two tuples held against each other by ==. -/
import Derived.Test.YtnbalmnpcdnidaaDoorW5
import Derived.Test.YtnbalmnpcdnidaaDoorCmp
namespace Go.Proofs.YtnbalmnpcdnidaaDoor
open Go.RowKit
set_option maxHeartbeats 2000000 in
theorem eql_tup (a b c d e f a' b' c' d' e' f' : ByteArray) (w : World) :
    (binOp .eql 28 (.agg #[.string a, .string b, .string c, .string d, .string e, .string f]) (.agg #[.string a', .string b', .string c', .string d', .string e', .string f'])).run Tryd.prog w = .ok (.bool (same6 a b c d e f a' b' c' d' e' f')) w := by
  unfold same6
  cases h0 : a.toList == a'.toList
  · simp [go_sem, h0]
  cases h1 : b.toList == b'.toList
  · simp [go_sem, h0, h1]
  cases h2 : c.toList == c'.toList
  · simp [go_sem, h0, h1, h2]
  cases h3 : d.toList == d'.toList
  · simp [go_sem, h0, h1, h2, h3]
  cases h4 : e.toList == e'.toList
  · simp [go_sem, h0, h1, h2, h3, h4]
  · by_cases h5 : f.toList = f'.toList <;> simp [go_sem, h0, h1, h2, h3, h4, h5]
theorem same_self (a b c d e f : ByteArray) : same6 a b c d e f a b c d e f = true := by simp [same6]
end Go.Proofs.YtnbalmnpcdnidaaDoor
