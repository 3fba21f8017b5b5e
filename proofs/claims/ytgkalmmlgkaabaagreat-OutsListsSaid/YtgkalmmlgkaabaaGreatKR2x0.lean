/-
  Results of calls of fixed values. Written by a program. Conditions: none.
-/
import Derived.Test.YtgkalmmlgkaabaaGreatKT1
import Derived.KernelRfl
namespace Go.Proofs.YtgkalmmlgkaabaaGreat.Am
set_option maxRecDepth 1000000
theorem KR2 : RowN TT EE RR 6000 105 KA2 KV2 := rowOf (n := 3000) KK1 (by intro st; kernel_rfl)
theorem KR4 : RowN TT EE RR 6000 105 KA4 KV4 := rowOf (n := 3000) KK1 (by intro st; kernel_rfl)
theorem KR8 : RowN TT EE RR 6000 52 KA8 KV8 := rowOf (n := 3000) KK1 (by intro st; kernel_rfl)
theorem KR12 : RowN TT EE RR 6000 32 KA12 KV12 := rowOf (n := 3000) KK1 (by intro st; kernel_rfl)
theorem KR13 : RowN TT EE RR 6000 36 KA13 KV13 := rowOf (n := 3000) KK1 (by intro st; kernel_rfl)
theorem KR15 : RowN TT EE RR 6000 32 KA15 KV15 := rowOf (n := 3000) KK1 (by intro st; kernel_rfl)
theorem KR17 : RowN TT EE RR 6000 32 KA17 KV17 := rowOf (n := 3000) KK1 (by intro st; kernel_rfl)
theorem KR18 : RowN TT EE RR 6000 36 KA18 KV18 := rowOf (n := 3000) KK1 (by intro st; kernel_rfl)
theorem KR20 : RowN TT EE RR 6000 32 KA20 KV20 := rowOf (n := 3000) KK1 (by intro st; kernel_rfl)
theorem KR21 : RowN TT EE RR 6000 32 KA21 KV21 := rowOf (n := 3000) KK1 (by intro st; kernel_rfl)
theorem KR22 : RowN TT EE RR 6000 36 KA22 KV22 := rowOf (n := 3000) KK1 (by intro st; kernel_rfl)
theorem KR24 : RowN TT EE RR 6000 32 KA24 KV24 := rowOf (n := 3000) KK1 (by intro st; kernel_rfl)
theorem KR25 : RowN TT EE RR 6000 36 KA25 KV25 := rowOf (n := 3000) KK1 (by intro st; kernel_rfl)
theorem KR26 : RowN TT EE RR 6000 32 KA26 KV26 := rowOf (n := 3000) KK1 (by intro st; kernel_rfl)
theorem KR27 : RowN TT EE RR 6000 32 KA27 KV27 := rowOf (n := 3000) KK1 (by intro st; kernel_rfl)
theorem KR28 : RowN TT EE RR 6000 36 KA28 KV28 := rowOf (n := 3000) KK1 (by intro st; kernel_rfl)
theorem KR30 : RowN TT EE RR 6000 32 KA30 KV30 := rowOf (n := 3000) KK1 (by intro st; kernel_rfl)
theorem KR31 : RowN TT EE RR 6000 36 KA31 KV31 := rowOf (n := 3000) KK1 (by intro st; kernel_rfl)
theorem KR33 : RowN TT EE RR 6000 32 KA33 KV33 := rowOf (n := 3000) KK1 (by intro st; kernel_rfl)
theorem KR34 : RowN TT EE RR 6000 32 KA34 KV34 := rowOf (n := 3000) KK1 (by intro st; kernel_rfl)
theorem KR35 : RowN TT EE RR 6000 32 KA35 KV35 := rowOf (n := 3000) KK1 (by intro st; kernel_rfl)
theorem KR38 : RowN TT EE RR 6000 32 KA38 KV38 := rowOf (n := 3000) KK1 (by intro st; kernel_rfl)
theorem KR40 : RowN TT EE RR 6000 32 KA40 KV40 := rowOf (n := 3000) KK1 (by intro st; kernel_rfl)
theorem KR42 : RowN TT EE RR 6000 32 KA42 KV42 := rowOf (n := 3000) KK1 (by intro st; kernel_rfl)
theorem KR44 : RowN TT EE RR 6000 32 KA44 KV44 := rowOf (n := 3000) KK1 (by intro st; kernel_rfl)
theorem KR46 : RowN TT EE RR 6000 32 KA46 KV46 := rowOf (n := 3000) KK1 (by intro st; kernel_rfl)
end Go.Proofs.YtgkalmmlgkaabaaGreat.Am
