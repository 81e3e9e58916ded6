/- A part of the proofs over the tenants of a page cache: lemmas on what is known of the memory, and contracts of the Go functions. -/
import Derived.Test.YtckokpmljhhhcaaTf
import Derived.Test.YtckokpmljhhhcaaHe
set_option linter.unusedVariables false
set_option linter.unusedSimpArgs false
namespace Go.Proofs.Try
open Go Go.H
instance : Es prog 38 [(36, 0), (36, 1), (36, 2), (36, 3), (36, 4), (36, 5)] := ⟨by kernel_rfl⟩
instance : Es prog 106 [(3, 0), (3, 1), (3, 2)] := ⟨by kernel_rfl⟩
instance : Es prog 111 [(4, 0), (4, 1), (4, 2), (3, 3), (3, 4), (9, 5)] := ⟨by kernel_rfl⟩
instance : Es prog 126 [(4, 0), (4, 1), (4, 2), (3, 3)] := ⟨by kernel_rfl⟩
instance : Es prog 129 [(126, 0), (3, 4), (127, 5)] := ⟨by kernel_rfl⟩
instance : Es prog 180 [(3, 0), (3, 1), (3, 2)] := ⟨by kernel_rfl⟩
instance : Es prog 184 [(3, 0), (25, 1), (4, 2), (3, 3), (9, 4), (38, 5)] := ⟨by kernel_rfl⟩
end Go.Proofs.Try
