/-
  An empty table. Written by a program. Conditions: none.
-/
import Derived.Test.YtgkalmmlgkaabaaGreatT2
import Derived.Test.YtgkalmmlgkaabaaGreatKV
import Derived.KernelRfl
namespace Go.Proofs.YtgkalmmlgkaabaaGreat.Am
set_option maxRecDepth 1000000
def KT0 : Tr (List (List AV × AV)) := .nil
theorem KK0 : MemoOk (memoT KT0) TT EE RR 0 := memoT_ok trivial
end Go.Proofs.YtgkalmmlgkaabaaGreat.Am
