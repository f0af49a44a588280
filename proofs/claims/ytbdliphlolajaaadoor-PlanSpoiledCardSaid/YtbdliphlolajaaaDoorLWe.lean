/-
  Walks of the seat's functions: We.
-/
import Derived.Test.YtbdliphlolajaaaDoorEb2
import Derived.Test.YtbdliphlolajaaaDoorShSv
import Derived.Test.YtbdliphlolajaaaDoorLMg
set_option linter.unusedVariables false
set_option linter.unusedSimpArgs false
set_option maxRecDepth 100000
namespace Go.Proofs.YtbdliphlolajaaaDoor
open Go.Proofs.YtbdliphlolajaaaDoor.Sh
/-! A made network, as a caller sees it. -/
theorem Made_c (n : Int) : ∃ P L, (∀ get, callP (PCw ES) get n_r26_Made [.int .i64 n] = some (.agg (cfgC (madeC n) P L))) ∧ CfgP (madeC n) P L := by
  obtain ⟨P, L, h1, h2⟩ := Made_ok n
  exact ⟨P, L, fun get => callP_of h1 (by simp), h2⟩

end Go.Proofs.YtbdliphlolajaaaDoor
