/- Two words times one another. No condition. -/
import Derived.Test.YtbaciogbhjcdoaaP10k
set_option linter.unusedVariables false
set_option linter.unusedSimpArgs false
namespace Go.Proofs.Ytbaciogbhjcdoaa
def mulHi (x y : BitVec 64) : BitVec 64 :=
  let x0 := x &&& 4294967295#64; let x1 := x >>> 32; let y0 := y &&& 4294967295#64; let y1 := y >>> 32
  let w0 := x0 * y0; let t := x1 * y0 + w0 >>> 32
  x1 * y1 + t >>> 32 + ((t &&& 4294967295#64) + x0 * y1) >>> 32
theorem mulHi_one : ∀ k : Fin 65, mulHi 1#64 (BitVec.ofNat 64 k) = 0#64 := by decide +kernel
end Go.Proofs.Ytbaciogbhjcdoaa
