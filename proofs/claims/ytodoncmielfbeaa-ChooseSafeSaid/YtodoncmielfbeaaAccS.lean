/-
  The layings that accept's texts want, out of this seat's.
-/
import Derived.Test.YtodoncmielfbeaaChSh
namespace Go.Proofs.Ytodoncmielfbeaa.accs
open Go.Shelf
def keysA_ren : Go.Shelf.Ren := Go.Proofs.Ytodoncmielfbeaa.chsh.keysV_ren
theorem keysA : Go.Proofs.SlLaysZI.n7 Try.prog keysA_ren := Go.Proofs.Ytodoncmielfbeaa.chsh.keysV
def sortedA_ren : Go.Shelf.Ren := Go.Proofs.Ytodoncmielfbeaa.chsh.sortedC_ren
theorem sortedA : Go.Proofs.SlLaysZI.n6 Try.prog sortedA_ren := Go.Proofs.Ytodoncmielfbeaa.chsh.sortedC
def sortA_ren : Go.Shelf.Ren := Go.Proofs.Ytodoncmielfbeaa.chsh.sortC_ren
theorem sortA : Go.Proofs.SlLaysM.n5 Try.prog sortA_ren := Go.Proofs.Ytodoncmielfbeaa.chsh.sortC
end Go.Proofs.Ytodoncmielfbeaa.accs
