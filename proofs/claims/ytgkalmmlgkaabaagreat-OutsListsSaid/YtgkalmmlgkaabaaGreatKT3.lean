/-
  The table of results. Written by a program. Conditions: none.
-/
import Derived.Test.YtgkalmmlgkaabaaGreatKR3x0
import Derived.Test.YtgkalmmlgkaabaaGreatKR3x1
import Derived.KernelRfl
namespace Go.Proofs.YtgkalmmlgkaabaaGreat.Am
set_option maxRecDepth 1000000
def KT3 : Tr (List (List AV × AV)) := (.node (.node (.node (.node .nil 15 [(KA5, KV5)] .nil) 17 [(KA36, KV36), (KA47, KV47)] (.node .nil 18 [(KA37, KV37), (KA48, KV48)] .nil)) 19 [(KA0, KV0)] (.node (.node .nil 28 [(KA9, KV9)] .nil) 32 [(KA12, KV12), (KA15, KV15), (KA17, KV17), (KA20, KV20), (KA21, KV21), (KA24, KV24), (KA26, KV26), (KA27, KV27), (KA30, KV30), (KA33, KV33), (KA34, KV34), (KA35, KV35), (KA38, KV38), (KA40, KV40), (KA42, KV42), (KA44, KV44), (KA46, KV46)] .nil)) 36 [(KA13, KV13), (KA18, KV18), (KA22, KV22), (KA25, KV25), (KA28, KV28), (KA31, KV31)] (.node (.node (.node .nil 52 [(KA8, KV8)] .nil) 60 [(KA11, KV11)] (.node .nil 82 [(KA1, KV1), (KA3, KV3)] .nil)) 105 [(KA2, KV2), (KA4, KV4)] (.node (.node .nil 137 [(KA6, KV6), (KA7, KV7)] .nil) 198 [(KA14, KV14), (KA16, KV16), (KA19, KV19), (KA23, KV23), (KA29, KV29), (KA32, KV32), (KA39, KV39), (KA41, KV41), (KA43, KV43), (KA45, KV45)] .nil)))
theorem KK3 : MemoOk (memoT KT3) TT EE RR 9000 := memoT_ok ⟨⟨⟨⟨trivial, ⟨KR5.up rfl, trivial⟩, trivial⟩, ⟨KR36.up rfl, KR47.up rfl, trivial⟩, ⟨trivial, ⟨KR37.up rfl, KR48.up rfl, trivial⟩, trivial⟩⟩, ⟨KR0.up rfl, trivial⟩, ⟨⟨trivial, ⟨KR9.up rfl, trivial⟩, trivial⟩, ⟨KR12.up rfl, KR15.up rfl, KR17.up rfl, KR20.up rfl, KR21.up rfl, KR24.up rfl, KR26.up rfl, KR27.up rfl, KR30.up rfl, KR33.up rfl, KR34.up rfl, KR35.up rfl, KR38.up rfl, KR40.up rfl, KR42.up rfl, KR44.up rfl, KR46.up rfl, trivial⟩, trivial⟩⟩, ⟨KR13.up rfl, KR18.up rfl, KR22.up rfl, KR25.up rfl, KR28.up rfl, KR31.up rfl, trivial⟩, ⟨⟨⟨trivial, ⟨KR8.up rfl, trivial⟩, trivial⟩, ⟨KR11.up rfl, trivial⟩, ⟨trivial, ⟨KR1.up rfl, KR3.up rfl, trivial⟩, trivial⟩⟩, ⟨KR2.up rfl, KR4.up rfl, trivial⟩, ⟨⟨trivial, ⟨KR6.up rfl, KR7.up rfl, trivial⟩, trivial⟩, ⟨KR14.up rfl, KR16.up rfl, KR19.up rfl, KR23.up rfl, KR29.up rfl, KR32.up rfl, KR39.up rfl, KR41.up rfl, KR43.up rfl, KR45.up rfl, trivial⟩, trivial⟩⟩⟩
end Go.Proofs.YtgkalmmlgkaabaaGreat.Am
