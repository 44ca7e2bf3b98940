/- What some functions compute, as plain formulas. No condition. -/
import Derived.Test.YtbaciogbhjcdoaaD10m
set_option linter.unusedVariables false
set_option linter.unusedSimpArgs false
set_option maxRecDepth 20000
namespace Go.Proofs.Ytbaciogbhjcdoaa
def wp_mul64 (x : BitVec 64) (y : BitVec 64) (Q : (BitVec 64) → (BitVec 64) → Prop) : Prop :=
  Q ((((x >>> 32) * (y >>> 32)) + ((((x >>> 32) * (y &&& 4294967295#64)) + (((x &&& 4294967295#64) * (y &&& 4294967295#64)) >>> 32)) >>> 32)) + ((((((x >>> 32) * (y &&& 4294967295#64)) + (((x &&& 4294967295#64) * (y &&& 4294967295#64)) >>> 32)) &&& 4294967295#64) + ((x &&& 4294967295#64) * (y >>> 32))) >>> 32)) (x * y)
def wp_mulU (x : BitVec 64) (y : BitVec 64) (Q : (BitVec 64) → (BitVec 64) → Prop) : Prop :=
  Q (mulHi x y) (x * y)
end Go.Proofs.Ytbaciogbhjcdoaa
