/-
  Results of calls of fixed values. Written by a program. Conditions: none.
-/
import Derived.Test.YtgkalmmlgkaabaaGreatKT0
import Derived.KernelRfl
namespace Go.Proofs.YtgkalmmlgkaabaaGreat.Am
set_option maxRecDepth 1000000
theorem KR0 : RowN TT EE RR 3000 19 KA0 KV0 := rowOf (n := 3000) KK0 (by intro st; kernel_rfl)
theorem KR1 : RowN TT EE RR 3000 82 KA1 KV1 := rowOf (n := 3000) KK0 (by intro st; kernel_rfl)
theorem KR3 : RowN TT EE RR 3000 82 KA3 KV3 := rowOf (n := 3000) KK0 (by intro st; kernel_rfl)
theorem KR6 : RowN TT EE RR 3000 137 KA6 KV6 := rowOf (n := 3000) KK0 (by intro st; kernel_rfl)
theorem KR7 : RowN TT EE RR 3000 137 KA7 KV7 := rowOf (n := 3000) KK0 (by intro st; kernel_rfl)
theorem KR11 : RowN TT EE RR 3000 60 KA11 KV11 := rowOf (n := 3000) KK0 (by intro st; kernel_rfl)
theorem KR14 : RowN TT EE RR 3000 198 KA14 KV14 := rowOf (n := 3000) KK0 (by intro st; kernel_rfl)
theorem KR16 : RowN TT EE RR 3000 198 KA16 KV16 := rowOf (n := 3000) KK0 (by intro st; kernel_rfl)
theorem KR19 : RowN TT EE RR 3000 198 KA19 KV19 := rowOf (n := 3000) KK0 (by intro st; kernel_rfl)
theorem KR23 : RowN TT EE RR 3000 198 KA23 KV23 := rowOf (n := 3000) KK0 (by intro st; kernel_rfl)
theorem KR29 : RowN TT EE RR 3000 198 KA29 KV29 := rowOf (n := 3000) KK0 (by intro st; kernel_rfl)
theorem KR32 : RowN TT EE RR 3000 198 KA32 KV32 := rowOf (n := 3000) KK0 (by intro st; kernel_rfl)
theorem KR37 : RowN TT EE RR 3000 18 KA37 KV37 := rowOf (n := 3000) KK0 (by intro st; kernel_rfl)
theorem KR39 : RowN TT EE RR 3000 198 KA39 KV39 := rowOf (n := 3000) KK0 (by intro st; kernel_rfl)
theorem KR41 : RowN TT EE RR 3000 198 KA41 KV41 := rowOf (n := 3000) KK0 (by intro st; kernel_rfl)
theorem KR43 : RowN TT EE RR 3000 198 KA43 KV43 := rowOf (n := 3000) KK0 (by intro st; kernel_rfl)
theorem KR45 : RowN TT EE RR 3000 198 KA45 KV45 := rowOf (n := 3000) KK0 (by intro st; kernel_rfl)
end Go.Proofs.YtgkalmmlgkaabaaGreat.Am
