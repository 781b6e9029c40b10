/- Statements of the contracts of Make and what it calls. No condition. -/
import Derived.Test.YtekkphoingjidaaDoorDD
namespace Go.Proofs.YtekkphoingjidaaDoor
open Go.Evl Go.RowKit

/-- a wide number that fits -/
def fitB (hi lo : Int) : Bool := decide (hi = 0 ∧ lo ≤ 1152921504606846976)
def inI (x : Int) : Bool := decide (-9223372036854775808 ≤ x ∧ x < 9223372036854775808)
def e63 : Ent := ⟨63, fun
  | [.agg [.int .u64 hi, .int .u64 lo]] => .node (inU lo) (.node (fitB hi lo) (.leaf (.ret (.int .i64 lo))) (.leaf .pan)) .non
  | _ => .non⟩
def e38 : Ent := ⟨38, fun
  | [.bool n, .agg [.int .u64 a, .int .u64 b], .agg [.int .u64 c, .int .u64 d]] => .node (inU b && inU d) (.node (fitB a b) (.node (fitB c d) (.leaf (.ret (.agg [.int .i64 (bif n then -b else b), .int .i64 d]))) (.leaf .pan)) (.leaf .pan)) .non
  | _ => .non⟩
def mkG (num den : Int) : Int := gcdI (absI num) (absI den)
def mkA (num den : Int) : Int := absI num / mkG num den
def mkD (num den : Int) : Int := absI den / mkG num den
def mkN (num den : Int) : Int := bif (decide (num < 0) != decide (den < 0)) then -mkA num den else mkA num den
def mkFits (num den : Int) : Bool := decide (mkA num den ≤ 1152921504606846976) && decide (mkD num den ≤ 1152921504606846976)
def e11 : Ent := ⟨11, fun
  | [.int .i64 num, .int .i64 den] => .node (inI num && inI den) (.node (decide (den = 0)) (.leaf (.ret (.tup [.agg [.int .i64 0, .int .i64 0], .int .i64 26])))
      (.node (mkFits num den) (.leaf (.ret (.tup [.agg [.int .i64 (mkN num den), .int .i64 (mkD num den)], .int .i64 0]))) (.leaf (.ret (.tup [.agg [.int .i64 0, .int .i64 0], .int .i64 14]))))) .non
  | _ => .non⟩
end Go.Proofs.YtekkphoingjidaaDoor
