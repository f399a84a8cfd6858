import Derived.Test.YtmcooaoblpcoeaaDiskK
import Derived.Test.YtmcooaoblpcoeaaDiskL
/-
  DiskNone, joined.
-/
namespace Go.Proofs.Ytmcooaoblpcoeaa
open Go.RowKit
theorem diskNone_walk (a n : Int) (w : World) (_ : (Lit.int .i64 a).wf = true) (_ : (Lit.int .i64 n).wf = true) : Calls Try.prog 8 #[.int .i64 a, .int .i64 n] w fun e w' => e = .returned (.bool true) ∧ Below w.heap.size w w' := diskNone_of alive_any a n w
end Go.Proofs.Ytmcooaoblpcoeaa
