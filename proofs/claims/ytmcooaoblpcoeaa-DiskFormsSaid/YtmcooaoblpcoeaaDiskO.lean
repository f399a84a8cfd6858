import Derived.Test.YtmcooaoblpcoeaaDiskK
import Derived.Test.YtmcooaoblpcoeaaDiskM
/-
  DiskForms, joined.
-/
namespace Go.Proofs.Ytmcooaoblpcoeaa
open Go.RowKit
theorem diskForms_walk (size at_ : Int) (a : Option Addr) (len cap : Nat) (zs : List Int) (w : World) (_ : (Lit.int .i64 size).wf = true) (_ : (Lit.int .i64 at_).wf = true) (hz : IsRow .u8 w a len cap zs) (_ : len * 1 ≤ 140737488351232) :
    Calls Try.prog 4 #[.int .i64 size, .int .i64 at_, .slice a len cap] w fun e w' => e = .returned (.bool true) ∧ Below w.heap.size w w' := diskForms_of alive_any size at_ a len cap zs w hz
end Go.Proofs.Ytmcooaoblpcoeaa
