/- The fixed calls of layer 4, in plain Lean. -/
import Derived.Test.YtiekjjejoekdeaaDsPure
namespace Bw
set_option linter.unusedVariables false
def fA : ByteArray := ⟨#[97]⟩
def fB : ByteArray := ⟨#[98]⟩
def fC : ByteArray := ⟨#[99]⟩
def fX : ByteArray := ⟨#[120]⟩
def fZ : ByteArray := str (List.replicate 253 0)
def fd0 : DiskD := initD 2
def fd1 : DiskD := fd0.writeD 0 fA
def fd2 : DiskD := fd1.syncD
def fd3 : DiskD := fd2.writeD 0 fB
def fd4 : DiskD := fd3.writeD 1 fC
def fd5 : DiskD := fd4.writeD 2 fX
def fd6 : DiskD := fd5.writeD 0 fZ
def fd7 : DiskD := fd6.crashD [2, 1]
def fo1 : DiskD := fd6.crashD []
theorem fr0 : fd0.readE 1 = 0 := by decide +kernel
theorem fs0 : fd0.readS 1 = wholeS ByteArray.empty := by decide +kernel
theorem fe1 : fd0.writeE 0 fA = 0 := by decide +kernel
theorem fe3 : fd2.writeE 0 fB = 0 := by decide +kernel
theorem fe4 : fd3.writeE 1 fC = 0 := by decide +kernel
theorem fe5 : fd4.writeE 2 fX = 1 := by decide +kernel
theorem fe6 : fd5.writeE 0 fZ = 2 := by decide +kernel
theorem fdirty6 : fd6.dirtyD = [0, 1] := by decide +kernel
theorem fdirty7 : fd7.dirtyD = [] := by decide +kernel
theorem fr7 : fd7.readE 0 = 5 := by decide +kernel
theorem fr7' : fd7.readE 1 = 0 := by decide +kernel
theorem fs7' : fd7.readS 1 = wholeS fC := by decide +kernel
theorem fro : fo1.readE 0 = 0 := by decide +kernel
theorem fso : fo1.readS 0 = wholeS fA := by decide +kernel
theorem fro' : fo1.readE (-1) = 1 := by decide +kernel
theorem fraw0 : (fd7.rawD 0).size = 256 := by decide +kernel
theorem fraw2 : fd7.rawD 2 = ByteArray.empty := by decide +kernel
theorem fn7 : fd7.n = 2 := by decide +kernel
theorem fw6 : fd6.W.length = 2 := by decide +kernel
end Bw
