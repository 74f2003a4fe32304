import Derived.Test.YtiekjjejoekdeaaDsOpen
namespace Go.Proofs.Ytiekjjejoekdeaa
open Go.RowKit Bw
theorem op_type : OpType Try.prog 32 :=
  ⟨⟨_, _, _, _, _, _, rfl, Try.underlying32, by kernel_rfl, by kernel_rfl, Try.underlying3, Try.underlying3, Try.underlying9, Try.underlying30, Try.underlying3, by kernel_rfl⟩⟩
end Go.Proofs.Ytiekjjejoekdeaa
