/-
  The table of results. Written by a program. Conditions: none.
-/
import Derived.Test.YtgkalmmlgkaabaaGreatKR1x0
import Derived.Test.YtgkalmmlgkaabaaGreatKR1x1
import Derived.KernelRfl
namespace Go.Proofs.YtgkalmmlgkaabaaGreat.Am
set_option maxRecDepth 1000000
def KT1 : Tr (List (List AV × AV)) := (.node (.node (.node .nil 18 [(KA37, KV37), (KA48, KV48)] .nil) 19 [(KA0, KV0)] (.node .nil 60 [(KA11, KV11)] .nil)) 82 [(KA1, KV1), (KA3, KV3)] (.node (.node .nil 137 [(KA6, KV6), (KA7, KV7)] .nil) 198 [(KA14, KV14), (KA16, KV16), (KA19, KV19), (KA23, KV23), (KA29, KV29), (KA32, KV32), (KA39, KV39), (KA41, KV41), (KA43, KV43), (KA45, KV45)] .nil))
theorem KK1 : MemoOk (memoT KT1) TT EE RR 3000 := memoT_ok ⟨⟨⟨trivial, ⟨KR37.up rfl, KR48.up rfl, trivial⟩, trivial⟩, ⟨KR0.up rfl, trivial⟩, ⟨trivial, ⟨KR11.up rfl, trivial⟩, trivial⟩⟩, ⟨KR1.up rfl, KR3.up rfl, trivial⟩, ⟨⟨trivial, ⟨KR6.up rfl, KR7.up rfl, trivial⟩, trivial⟩, ⟨KR14.up rfl, KR16.up rfl, KR19.up rfl, KR23.up rfl, KR29.up rfl, KR32.up rfl, KR39.up rfl, KR41.up rfl, KR43.up rfl, KR45.up rfl, trivial⟩, trivial⟩⟩
end Go.Proofs.YtgkalmmlgkaabaaGreat.Am
