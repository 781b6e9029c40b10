/- Statements of the ratio package's contracts. No condition. -/
import Derived.Test.YtekkphoingjidaaDoorDB
namespace Go.Proofs.YtekkphoingjidaaDoor
open Go.Evl Go.RowKit

/-- a valid fraction -/
def okB (a b : Int) : Bool := decide (1 ≤ b ∧ b ≤ 1152921504606846976 ∧ -1152921504606846976 ≤ a ∧ a ≤ 1152921504606846976 ∧ Nat.gcd a.natAbs b.natAbs = 1)
def f40 : List AV → List Ob → Tr (Ex × List AV × List Ob)
  | [.int .i64 a, .int .i64 b], [] => .node (decide (0 ≤ a) && decide (0 ≤ b)) (.leaf (.exit 0, [.int .i64 (gcdI a b), .int .i64 0], [])) .non
  | _, _ => .non
def e40 : Ent := ⟨40, fun
  | [.int .i64 a, .int .i64 b] => .node (decide (0 ≤ a) && decide (0 ≤ b)) (.leaf (.ret (.int .i64 (gcdI a b)))) .non
  | _ => .non⟩
def e41 : Ent := ⟨41, fun
  | [.int .i64 n] => .node (decide (-9223372036854775808 < n) && decide (n < 9223372036854775808)) (.leaf (.ret (.int .i64 (absI n)))) .non
  | _ => .non⟩
def e13 : Ent := ⟨13, fun
  | [.agg [.int .i64 a, .int .i64 b]] => .node (okB a b) (.leaf (.ret (.int .i64 0))) (.leaf (.ret (.int .i64 1)))
  | _ => .non⟩
def e14 : Ent := ⟨14, fun
  | [.agg [.int .i64 a, .int .i64 b]] => .node (okB a b) (.leaf (.ret (.int .i64 0))) (.leaf (.ret (.int .i64 1)))
  | _ => .non⟩
def e15 : Ent := ⟨15, fun
  | [.agg [.int .i64 a, .int .i64 b]] => .node (okB a b) (.leaf (.ret (.int .i64 (a / b)))) (.leaf (.ret (.int .i64 0)))
  | _ => .non⟩
def e44 : Ent := ⟨44, fun
  | [.agg [.int .i64 a, .int .i64 b], .agg [.int .i64 c, .int .i64 d]] => .node (okB a b) (.node (okB c d) (.leaf (.ret (.bool true))) (.leaf (.ret (.bool false)))) (.leaf (.ret (.bool false)))
  | _ => .non⟩
def e52 : Ent := ⟨52, fun
  | [.int .i64 a, .int .i64 b] => .node (decide (a < b)) (.leaf (.ret (.int .i64 (-1)))) (.node (decide (a > b)) (.leaf (.ret (.int .i64 1))) (.leaf (.ret (.int .i64 0))))
  | _ => .non⟩
def inU (x : Int) : Bool := decide (0 ≤ x ∧ x < 18446744073709551616)
def e70 : Ent := ⟨70, fun
  | [.int .u64 x, .int .u64 y] => .node (inU x && inU y) (.leaf (.ret (.tup [.int .u64 (x * y / 18446744073709551616), .int .u64 (x * y % 18446744073709551616)]))) .non
  | _ => .non⟩
def e53 : Ent := ⟨53, fun
  | [.int .u64 x, .int .u64 y] => .node (inU x && inU y) (.leaf (.ret (.agg [.int .u64 (x * y / 18446744073709551616), .int .u64 (x * y % 18446744073709551616)]))) .non
  | _ => .non⟩
def e54 : Ent := ⟨54, fun
  | [.agg [.int .u64 a, .int .u64 b], .agg [.int .u64 c, .int .u64 d]] => .node (decide (a < c)) (.leaf (.ret (.bool true))) (.node (a == c) (.node (decide (b < d)) (.leaf (.ret (.bool true))) (.leaf (.ret (.bool false)))) (.leaf (.ret (.bool false))))
  | _ => .non⟩
def e26 : Ent := ⟨26, fun
  | [.agg [.int .i64 a, .int .i64 b], .agg [.int .i64 c, .int .i64 d]] => .node (okB a b && okB c d) (.node (decide (a * d < c * b)) (.leaf (.ret (.int .i64 (-1)))) (.node (decide (a * d = c * b)) (.leaf (.ret (.int .i64 0))) (.leaf (.ret (.int .i64 1))))) (.leaf (.ret (.int .i64 0)))
  | _ => .non⟩
end Go.Proofs.YtekkphoingjidaaDoor
