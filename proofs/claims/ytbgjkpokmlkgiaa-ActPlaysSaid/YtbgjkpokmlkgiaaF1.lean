/- Facts about the types of Try. -/
import Derived.Test.YtbgjkpokmlkgiaaProg
import Derived.KernelRfl
import Derived.Test.YtbgjkpokmlkgiaaEc
namespace Go.VL.Try
open Go Go.VL Go.Proofs
theorem sz_0 : szP Try.prog 0 = some 1 := by kernel_rfl
theorem knd_0 : kndP Try.prog 0 = some none := by kernel_rfl
theorem ei_0 : eiP Try.prog 0 = none := by kernel_rfl
theorem zero_0 : zeroP Try.prog 0 = some (Value.tuple #[]) := by kernel_rfl
theorem el_0 : elemP Try.prog 0 = none := by kernel_rfl
theorem nt_0 : nilTy Try.prog 0 true = false := by kernel_rfl
theorem nf_0 : nilTy Try.prog 0 false = false := by kernel_rfl
theorem sz_1 : szP Try.prog 1 = some 1 := by kernel_rfl
theorem knd_1 : kndP Try.prog 1 = some none := by kernel_rfl
theorem ei_1 : eiP Try.prog 1 = none := by kernel_rfl
theorem zero_1 : zeroP Try.prog 1 = some Value.nilFunc := by kernel_rfl
theorem el_1 : elemP Try.prog 1 = none := by kernel_rfl
theorem nt_1 : nilTy Try.prog 1 true = false := by kernel_rfl
theorem nf_1 : nilTy Try.prog 1 false = false := by kernel_rfl
theorem sz_2 : szP Try.prog 2 = some 1 := by kernel_rfl
theorem knd_2 : kndP Try.prog 2 = some none := by kernel_rfl
theorem ei_2 : eiP Try.prog 2 = none := by kernel_rfl
theorem zero_2 : zeroP Try.prog 2 = some (Value.int IntKind.i64 0) := by kernel_rfl
theorem el_2 : elemP Try.prog 2 = none := by kernel_rfl
theorem nt_2 : nilTy Try.prog 2 true = false := by kernel_rfl
theorem nf_2 : nilTy Try.prog 2 false = false := by kernel_rfl
theorem sz_3 : szP Try.prog 3 = some 1 := by kernel_rfl
theorem knd_3 : kndP Try.prog 3 = some none := by kernel_rfl
theorem ei_3 : eiP Try.prog 3 = none := by kernel_rfl
theorem zero_3 : zeroP Try.prog 3 = some (Value.int IntKind.i64 0) := by kernel_rfl
theorem el_3 : elemP Try.prog 3 = none := by kernel_rfl
theorem nt_3 : nilTy Try.prog 3 true = false := by kernel_rfl
theorem nf_3 : nilTy Try.prog 3 false = false := by kernel_rfl
theorem sz_4 : szP Try.prog 4 = some 1 := by kernel_rfl
theorem knd_4 : kndP Try.prog 4 = some none := by kernel_rfl
theorem ei_4 : eiP Try.prog 4 = none := by kernel_rfl
theorem zero_4 : zeroP Try.prog 4 = some (Value.bool false) := by kernel_rfl
theorem el_4 : elemP Try.prog 4 = none := by kernel_rfl
theorem nt_4 : nilTy Try.prog 4 true = false := by kernel_rfl
theorem nf_4 : nilTy Try.prog 4 false = false := by kernel_rfl
theorem sz_5 : szP Try.prog 5 = some 1 := by kernel_rfl
theorem knd_5 : kndP Try.prog 5 = some none := by kernel_rfl
theorem ei_5 : eiP Try.prog 5 = none := by kernel_rfl
theorem zero_5 : zeroP Try.prog 5 = some (Value.int IntKind.u8 0) := by kernel_rfl
theorem el_5 : elemP Try.prog 5 = none := by kernel_rfl
theorem nt_5 : nilTy Try.prog 5 true = false := by kernel_rfl
theorem nf_5 : nilTy Try.prog 5 false = false := by kernel_rfl
theorem sz_6 : szP Try.prog 6 = some 1 := by kernel_rfl
theorem knd_6 : kndP Try.prog 6 = some none := by kernel_rfl
theorem ei_6 : eiP Try.prog 6 = none := by kernel_rfl
theorem zero_6 : zeroP Try.prog 6 = some (Value.int IntKind.u8 0) := by kernel_rfl
theorem el_6 : elemP Try.prog 6 = none := by kernel_rfl
theorem nt_6 : nilTy Try.prog 6 true = false := by kernel_rfl
theorem nf_6 : nilTy Try.prog 6 false = false := by kernel_rfl
theorem sz_7 : szP Try.prog 7 = some 4 := by kernel_rfl
theorem knd_7 : kndP Try.prog 7 = some (some 4) := by kernel_rfl
theorem ei_7 : eiP Try.prog 7 = none := by kernel_rfl
theorem zero_7 : zeroP Try.prog 7 = some (Value.agg #[Value.int IntKind.i64 0, Value.int IntKind.i64 0, Value.bool false, Value.int IntKind.u8 0]) := by kernel_rfl
theorem el_7 : elemP Try.prog 7 = none := by kernel_rfl
theorem nt_7 : nilTy Try.prog 7 true = false := by kernel_rfl
theorem nf_7 : nilTy Try.prog 7 false = false := by kernel_rfl
theorem sz_8 : szP Try.prog 8 = some 4 := by kernel_rfl
theorem knd_8 : kndP Try.prog 8 = some (some 4) := by kernel_rfl
theorem ei_8 : eiP Try.prog 8 = none := by kernel_rfl
theorem zero_8 : zeroP Try.prog 8 = some (Value.agg #[Value.int IntKind.i64 0, Value.int IntKind.i64 0, Value.bool false, Value.int IntKind.u8 0]) := by kernel_rfl
theorem el_8 : elemP Try.prog 8 = none := by kernel_rfl
theorem nt_8 : nilTy Try.prog 8 true = false := by kernel_rfl
theorem nf_8 : nilTy Try.prog 8 false = false := by kernel_rfl
theorem sz_9 : szP Try.prog 9 = some 1 := by kernel_rfl
theorem knd_9 : kndP Try.prog 9 = some none := by kernel_rfl
theorem ei_9 : eiP Try.prog 9 = none := by kernel_rfl
theorem zero_9 : zeroP Try.prog 9 = some (Value.string { data := #[] }) := by kernel_rfl
theorem el_9 : elemP Try.prog 9 = none := by kernel_rfl
theorem nt_9 : nilTy Try.prog 9 true = false := by kernel_rfl
theorem nf_9 : nilTy Try.prog 9 false = false := by kernel_rfl
theorem sz_10 : szP Try.prog 10 = some 1 := by kernel_rfl
theorem knd_10 : kndP Try.prog 10 = some none := by kernel_rfl
theorem ei_10 : eiP Try.prog 10 = none := by kernel_rfl
theorem zero_10 : zeroP Try.prog 10 = some (Value.string { data := #[] }) := by kernel_rfl
theorem el_10 : elemP Try.prog 10 = none := by kernel_rfl
theorem nt_10 : nilTy Try.prog 10 true = false := by kernel_rfl
theorem nf_10 : nilTy Try.prog 10 false = false := by kernel_rfl
theorem sz_11 : szP Try.prog 11 = some 1 := by kernel_rfl
theorem knd_11 : kndP Try.prog 11 = some none := by kernel_rfl
theorem ei_11 : eiP Try.prog 11 = none := by kernel_rfl
theorem zero_11 : zeroP Try.prog 11 = some (Value.string { data := #[] }) := by kernel_rfl
theorem el_11 : elemP Try.prog 11 = none := by kernel_rfl
theorem nt_11 : nilTy Try.prog 11 true = false := by kernel_rfl
theorem nf_11 : nilTy Try.prog 11 false = false := by kernel_rfl
theorem sz_12 : szP Try.prog 12 = some 1 := by kernel_rfl
theorem knd_12 : kndP Try.prog 12 = some none := by kernel_rfl
theorem ei_12 : eiP Try.prog 12 = none := by kernel_rfl
theorem zero_12 : zeroP Try.prog 12 = some (Value.int IntKind.u64 0) := by kernel_rfl
theorem el_12 : elemP Try.prog 12 = none := by kernel_rfl
theorem nt_12 : nilTy Try.prog 12 true = false := by kernel_rfl
theorem nf_12 : nilTy Try.prog 12 false = false := by kernel_rfl
theorem sz_13 : szP Try.prog 13 = some 2 := by kernel_rfl
theorem knd_13 : kndP Try.prog 13 = some (some 2) := by kernel_rfl
theorem ei_13 : eiP Try.prog 13 = none := by kernel_rfl
theorem zero_13 : zeroP Try.prog 13 = some (Value.agg { toList := [Value.string { data := #[] }, Value.int IntKind.u64 0] }) := by kernel_rfl
theorem el_13 : elemP Try.prog 13 = none := by kernel_rfl
theorem nt_13 : nilTy Try.prog 13 true = false := by kernel_rfl
theorem nf_13 : nilTy Try.prog 13 false = false := by kernel_rfl
theorem sz_14 : szP Try.prog 14 = some 2 := by kernel_rfl
theorem knd_14 : kndP Try.prog 14 = some (some 2) := by kernel_rfl
theorem ei_14 : eiP Try.prog 14 = none := by kernel_rfl
theorem zero_14 : zeroP Try.prog 14 = some (Value.agg { toList := [Value.string { data := #[] }, Value.int IntKind.u64 0] }) := by kernel_rfl
theorem el_14 : elemP Try.prog 14 = none := by kernel_rfl
theorem nt_14 : nilTy Try.prog 14 true = false := by kernel_rfl
theorem nf_14 : nilTy Try.prog 14 false = false := by kernel_rfl
theorem sz_15 : szP Try.prog 15 = some 1 := by kernel_rfl
theorem knd_15 : kndP Try.prog 15 = some none := by kernel_rfl
theorem ei_15 : eiP Try.prog 15 = none := by kernel_rfl
theorem zero_15 : zeroP Try.prog 15 = some (Value.pointer none) := by kernel_rfl
theorem el_15 : elemP Try.prog 15 = none := by kernel_rfl
theorem nt_15 : nilTy Try.prog 15 true = true := by kernel_rfl
theorem nf_15 : nilTy Try.prog 15 false = false := by kernel_rfl
theorem sz_16 : szP Try.prog 16 = some 1 := by kernel_rfl
theorem knd_16 : kndP Try.prog 16 = some none := by kernel_rfl
theorem ei_16 : eiP Try.prog 16 = none := by kernel_rfl
theorem zero_16 : zeroP Try.prog 16 = some (Value.pointer none) := by kernel_rfl
theorem el_16 : elemP Try.prog 16 = none := by kernel_rfl
theorem nt_16 : nilTy Try.prog 16 true = true := by kernel_rfl
theorem nf_16 : nilTy Try.prog 16 false = false := by kernel_rfl
theorem sz_17 : szP Try.prog 17 = some 1 := by kernel_rfl
theorem knd_17 : kndP Try.prog 17 = some none := by kernel_rfl
theorem ei_17 : eiP Try.prog 17 = none := by kernel_rfl
theorem zero_17 : zeroP Try.prog 17 = some (Value.pointer none) := by kernel_rfl
theorem el_17 : elemP Try.prog 17 = none := by kernel_rfl
theorem nt_17 : nilTy Try.prog 17 true = true := by kernel_rfl
theorem nf_17 : nilTy Try.prog 17 false = false := by kernel_rfl
theorem sz_18 : szP Try.prog 18 = some 1 := by kernel_rfl
theorem knd_18 : kndP Try.prog 18 = some (some 1) := by kernel_rfl
theorem ei_18 : eiP Try.prog 18 = none := by kernel_rfl
theorem zero_18 : zeroP Try.prog 18 = some (Value.agg #[Value.pointer none]) := by kernel_rfl
theorem el_18 : elemP Try.prog 18 = none := by kernel_rfl
theorem nt_18 : nilTy Try.prog 18 true = false := by kernel_rfl
theorem nf_18 : nilTy Try.prog 18 false = false := by kernel_rfl
theorem sz_19 : szP Try.prog 19 = some 1 := by kernel_rfl
theorem knd_19 : kndP Try.prog 19 = some (some 1) := by kernel_rfl
theorem ei_19 : eiP Try.prog 19 = none := by kernel_rfl
theorem zero_19 : zeroP Try.prog 19 = some (Value.agg #[Value.pointer none]) := by kernel_rfl
theorem el_19 : elemP Try.prog 19 = none := by kernel_rfl
theorem nt_19 : nilTy Try.prog 19 true = false := by kernel_rfl
theorem nf_19 : nilTy Try.prog 19 false = false := by kernel_rfl
theorem sz_20 : szP Try.prog 20 = some 1 := by kernel_rfl
theorem knd_20 : kndP Try.prog 20 = some none := by kernel_rfl
theorem ei_20 : eiP Try.prog 20 = none := by kernel_rfl
theorem zero_20 : zeroP Try.prog 20 = some Value.nilIface := by kernel_rfl
theorem el_20 : elemP Try.prog 20 = none := by kernel_rfl
theorem nt_20 : nilTy Try.prog 20 true = false := by kernel_rfl
theorem nf_20 : nilTy Try.prog 20 false = true := by kernel_rfl
theorem sz_21 : szP Try.prog 21 = some 1 := by kernel_rfl
theorem knd_21 : kndP Try.prog 21 = some none := by kernel_rfl
theorem ei_21 : eiP Try.prog 21 = none := by kernel_rfl
theorem zero_21 : zeroP Try.prog 21 = some (Value.int IntKind.i32 0) := by kernel_rfl
theorem el_21 : elemP Try.prog 21 = none := by kernel_rfl
theorem nt_21 : nilTy Try.prog 21 true = false := by kernel_rfl
theorem nf_21 : nilTy Try.prog 21 false = false := by kernel_rfl
theorem sz_22 : szP Try.prog 22 = some 1 := by kernel_rfl
theorem knd_22 : kndP Try.prog 22 = some none := by kernel_rfl
theorem ei_22 : eiP Try.prog 22 = some { size := 1, bytes := 1, zero := [Value.int IntKind.u8 0] } := by kernel_rfl
theorem zero_22 : zeroP Try.prog 22 = some (Value.slice none 0 0) := by kernel_rfl
theorem el_22 : elemP Try.prog 22 = some 5 := by kernel_rfl
theorem nt_22 : nilTy Try.prog 22 true = false := by kernel_rfl
theorem nf_22 : nilTy Try.prog 22 false = false := by kernel_rfl
theorem sz_23 : szP Try.prog 23 = some 1 := by kernel_rfl
theorem knd_23 : kndP Try.prog 23 = some none := by kernel_rfl
theorem ei_23 : eiP Try.prog 23 = none := by kernel_rfl
theorem zero_23 : zeroP Try.prog 23 = some Value.nilFunc := by kernel_rfl
theorem el_23 : elemP Try.prog 23 = none := by kernel_rfl
theorem nt_23 : nilTy Try.prog 23 true = false := by kernel_rfl
theorem nf_23 : nilTy Try.prog 23 false = false := by kernel_rfl
theorem sz_24 : szP Try.prog 24 = some 1 := by kernel_rfl
theorem knd_24 : kndP Try.prog 24 = some none := by kernel_rfl
theorem ei_24 : eiP Try.prog 24 = none := by kernel_rfl
theorem zero_24 : zeroP Try.prog 24 = some (Value.pointer none) := by kernel_rfl
theorem el_24 : elemP Try.prog 24 = none := by kernel_rfl
theorem nt_24 : nilTy Try.prog 24 true = true := by kernel_rfl
theorem nf_24 : nilTy Try.prog 24 false = false := by kernel_rfl
theorem sz_25 : szP Try.prog 25 = some 1 := by kernel_rfl
theorem knd_25 : kndP Try.prog 25 = some none := by kernel_rfl
theorem ei_25 : eiP Try.prog 25 = none := by kernel_rfl
theorem zero_25 : zeroP Try.prog 25 = some (Value.int IntKind.i64 0) := by kernel_rfl
theorem el_25 : elemP Try.prog 25 = none := by kernel_rfl
theorem nt_25 : nilTy Try.prog 25 true = false := by kernel_rfl
theorem nf_25 : nilTy Try.prog 25 false = false := by kernel_rfl
theorem sz_26 : szP Try.prog 26 = some 1 := by kernel_rfl
theorem knd_26 : kndP Try.prog 26 = some none := by kernel_rfl
theorem ei_26 : eiP Try.prog 26 = none := by kernel_rfl
theorem zero_26 : zeroP Try.prog 26 = some (Value.tuple #[Value.pointer none, Value.int IntKind.i64 0]) := by kernel_rfl
theorem el_26 : elemP Try.prog 26 = none := by kernel_rfl
theorem nt_26 : nilTy Try.prog 26 true = false := by kernel_rfl
theorem nf_26 : nilTy Try.prog 26 false = false := by kernel_rfl
theorem sz_27 : szP Try.prog 27 = some 1 := by kernel_rfl
theorem knd_27 : kndP Try.prog 27 = some none := by kernel_rfl
theorem ei_27 : eiP Try.prog 27 = none := by kernel_rfl
theorem zero_27 : zeroP Try.prog 27 = some Value.nilFunc := by kernel_rfl
theorem el_27 : elemP Try.prog 27 = none := by kernel_rfl
theorem nt_27 : nilTy Try.prog 27 true = false := by kernel_rfl
theorem nf_27 : nilTy Try.prog 27 false = false := by kernel_rfl
theorem sz_28 : szP Try.prog 28 = some 8 := by kernel_rfl
theorem knd_28 : kndP Try.prog 28 = some (some 8) := by kernel_rfl
theorem ei_28 : eiP Try.prog 28 = none := by kernel_rfl
theorem zero_28 : zeroP Try.prog 28 = some (Value.agg #[Value.int IntKind.i64 0, Value.int IntKind.i64 0, Value.int IntKind.i64 0, Value.int IntKind.i64 0, Value.int IntKind.i64 0, Value.int IntKind.i64 0, Value.int IntKind.i64 0, Value.int IntKind.i64 0]) := by kernel_rfl
theorem el_28 : elemP Try.prog 28 = none := by kernel_rfl
theorem nt_28 : nilTy Try.prog 28 true = false := by kernel_rfl
theorem nf_28 : nilTy Try.prog 28 false = false := by kernel_rfl
theorem sz_29 : szP Try.prog 29 = some 1 := by kernel_rfl
theorem knd_29 : kndP Try.prog 29 = some none := by kernel_rfl
theorem ei_29 : eiP Try.prog 29 = none := by kernel_rfl
theorem zero_29 : zeroP Try.prog 29 = some Value.nilFunc := by kernel_rfl
theorem el_29 : elemP Try.prog 29 = none := by kernel_rfl
theorem nt_29 : nilTy Try.prog 29 true = false := by kernel_rfl
theorem nf_29 : nilTy Try.prog 29 false = false := by kernel_rfl
theorem sz_30 : szP Try.prog 30 = some 1 := by kernel_rfl
theorem knd_30 : kndP Try.prog 30 = some none := by kernel_rfl
theorem ei_30 : eiP Try.prog 30 = none := by kernel_rfl
theorem zero_30 : zeroP Try.prog 30 = some (Value.float FloatKind.f64 0) := by kernel_rfl
theorem el_30 : elemP Try.prog 30 = none := by kernel_rfl
theorem nt_30 : nilTy Try.prog 30 true = false := by kernel_rfl
theorem nf_30 : nilTy Try.prog 30 false = false := by kernel_rfl
theorem sz_31 : szP Try.prog 31 = some 1 := by kernel_rfl
theorem knd_31 : kndP Try.prog 31 = some none := by kernel_rfl
theorem ei_31 : eiP Try.prog 31 = none := by kernel_rfl
theorem zero_31 : zeroP Try.prog 31 = some Value.nilFunc := by kernel_rfl
theorem el_31 : elemP Try.prog 31 = none := by kernel_rfl
theorem nt_31 : nilTy Try.prog 31 true = false := by kernel_rfl
theorem nf_31 : nilTy Try.prog 31 false = false := by kernel_rfl
theorem sz_32 : szP Try.prog 32 = some 1 := by kernel_rfl
theorem knd_32 : kndP Try.prog 32 = some none := by kernel_rfl
theorem ei_32 : eiP Try.prog 32 = none := by kernel_rfl
theorem zero_32 : zeroP Try.prog 32 = some (Value.tuple #[Value.int IntKind.i64 0, Value.bool false]) := by kernel_rfl
theorem el_32 : elemP Try.prog 32 = none := by kernel_rfl
theorem nt_32 : nilTy Try.prog 32 true = false := by kernel_rfl
theorem nf_32 : nilTy Try.prog 32 false = false := by kernel_rfl
theorem sz_33 : szP Try.prog 33 = some 1 := by kernel_rfl
theorem knd_33 : kndP Try.prog 33 = some none := by kernel_rfl
theorem ei_33 : eiP Try.prog 33 = none := by kernel_rfl
theorem zero_33 : zeroP Try.prog 33 = some Value.nilFunc := by kernel_rfl
theorem el_33 : elemP Try.prog 33 = none := by kernel_rfl
theorem nt_33 : nilTy Try.prog 33 true = false := by kernel_rfl
theorem nf_33 : nilTy Try.prog 33 false = false := by kernel_rfl
theorem sz_34 : szP Try.prog 34 = some 1 := by kernel_rfl
theorem knd_34 : kndP Try.prog 34 = some none := by kernel_rfl
theorem ei_34 : eiP Try.prog 34 = none := by kernel_rfl
theorem zero_34 : zeroP Try.prog 34 = some Value.nilFunc := by kernel_rfl
theorem el_34 : elemP Try.prog 34 = none := by kernel_rfl
theorem nt_34 : nilTy Try.prog 34 true = false := by kernel_rfl
theorem nf_34 : nilTy Try.prog 34 false = false := by kernel_rfl
theorem sz_35 : szP Try.prog 35 = some 1 := by kernel_rfl
theorem knd_35 : kndP Try.prog 35 = some none := by kernel_rfl
theorem ei_35 : eiP Try.prog 35 = none := by kernel_rfl
theorem zero_35 : zeroP Try.prog 35 = some Value.nilFunc := by kernel_rfl
theorem el_35 : elemP Try.prog 35 = none := by kernel_rfl
theorem nt_35 : nilTy Try.prog 35 true = false := by kernel_rfl
theorem nf_35 : nilTy Try.prog 35 false = false := by kernel_rfl
theorem sz_36 : szP Try.prog 36 = some 1 := by kernel_rfl
theorem knd_36 : kndP Try.prog 36 = some none := by kernel_rfl
theorem ei_36 : eiP Try.prog 36 = some { size := 1, bytes := 8, zero := [Value.int IntKind.u64 0] } := by kernel_rfl
theorem zero_36 : zeroP Try.prog 36 = some (Value.slice none 0 0) := by kernel_rfl
theorem el_36 : elemP Try.prog 36 = some 40 := by kernel_rfl
theorem nt_36 : nilTy Try.prog 36 true = false := by kernel_rfl
theorem nf_36 : nilTy Try.prog 36 false = false := by kernel_rfl
theorem sz_37 : szP Try.prog 37 = some 1 := by kernel_rfl
theorem knd_37 : kndP Try.prog 37 = some none := by kernel_rfl
theorem ei_37 : eiP Try.prog 37 = some { size := 1, bytes := 1, zero := [Value.bool false] } := by kernel_rfl
theorem zero_37 : zeroP Try.prog 37 = some (Value.slice none 0 0) := by kernel_rfl
theorem el_37 : elemP Try.prog 37 = some 4 := by kernel_rfl
theorem nt_37 : nilTy Try.prog 37 true = false := by kernel_rfl
theorem nf_37 : nilTy Try.prog 37 false = false := by kernel_rfl
theorem sz_38 : szP Try.prog 38 = some 1 := by kernel_rfl
theorem knd_38 : kndP Try.prog 38 = some none := by kernel_rfl
theorem ei_38 : eiP Try.prog 38 = some { size := 1, bytes := 8, zero := [Value.float FloatKind.f64 0] } := by kernel_rfl
theorem zero_38 : zeroP Try.prog 38 = some (Value.slice none 0 0) := by kernel_rfl
theorem el_38 : elemP Try.prog 38 = some 30 := by kernel_rfl
theorem nt_38 : nilTy Try.prog 38 true = false := by kernel_rfl
theorem nf_38 : nilTy Try.prog 38 false = false := by kernel_rfl
theorem sz_39 : szP Try.prog 39 = some 1 := by kernel_rfl
theorem knd_39 : kndP Try.prog 39 = some none := by kernel_rfl
theorem ei_39 : eiP Try.prog 39 = none := by kernel_rfl
theorem zero_39 : zeroP Try.prog 39 = some Value.nilFunc := by kernel_rfl
theorem el_39 : elemP Try.prog 39 = none := by kernel_rfl
theorem nt_39 : nilTy Try.prog 39 true = false := by kernel_rfl
theorem nf_39 : nilTy Try.prog 39 false = false := by kernel_rfl
theorem sz_40 : szP Try.prog 40 = some 1 := by kernel_rfl
theorem knd_40 : kndP Try.prog 40 = some none := by kernel_rfl
theorem ei_40 : eiP Try.prog 40 = none := by kernel_rfl
theorem zero_40 : zeroP Try.prog 40 = some (Value.int IntKind.u64 0) := by kernel_rfl
theorem el_40 : elemP Try.prog 40 = none := by kernel_rfl
theorem nt_40 : nilTy Try.prog 40 true = false := by kernel_rfl
theorem nf_40 : nilTy Try.prog 40 false = false := by kernel_rfl
theorem sz_41 : szP Try.prog 41 = some 1 := by kernel_rfl
theorem knd_41 : kndP Try.prog 41 = some none := by kernel_rfl
theorem ei_41 : eiP Try.prog 41 = none := by kernel_rfl
theorem zero_41 : zeroP Try.prog 41 = some Value.nilFunc := by kernel_rfl
theorem el_41 : elemP Try.prog 41 = none := by kernel_rfl
theorem nt_41 : nilTy Try.prog 41 true = false := by kernel_rfl
theorem nf_41 : nilTy Try.prog 41 false = false := by kernel_rfl
theorem sz_42 : szP Try.prog 42 = some 1 := by kernel_rfl
theorem knd_42 : kndP Try.prog 42 = some none := by kernel_rfl
theorem ei_42 : eiP Try.prog 42 = none := by kernel_rfl
theorem zero_42 : zeroP Try.prog 42 = some Value.nilFunc := by kernel_rfl
theorem el_42 : elemP Try.prog 42 = none := by kernel_rfl
theorem nt_42 : nilTy Try.prog 42 true = false := by kernel_rfl
theorem nf_42 : nilTy Try.prog 42 false = false := by kernel_rfl
theorem sz_43 : szP Try.prog 43 = some 1 := by kernel_rfl
theorem knd_43 : kndP Try.prog 43 = some none := by kernel_rfl
theorem ei_43 : eiP Try.prog 43 = none := by kernel_rfl
theorem zero_43 : zeroP Try.prog 43 = some Value.nilFunc := by kernel_rfl
theorem el_43 : elemP Try.prog 43 = none := by kernel_rfl
theorem nt_43 : nilTy Try.prog 43 true = false := by kernel_rfl
theorem nf_43 : nilTy Try.prog 43 false = false := by kernel_rfl
theorem sz_44 : szP Try.prog 44 = some 1 := by kernel_rfl
theorem knd_44 : kndP Try.prog 44 = some none := by kernel_rfl
theorem ei_44 : eiP Try.prog 44 = none := by kernel_rfl
theorem zero_44 : zeroP Try.prog 44 = some Value.nilFunc := by kernel_rfl
theorem el_44 : elemP Try.prog 44 = none := by kernel_rfl
theorem nt_44 : nilTy Try.prog 44 true = false := by kernel_rfl
theorem nf_44 : nilTy Try.prog 44 false = false := by kernel_rfl
theorem sz_45 : szP Try.prog 45 = some 1 := by kernel_rfl
theorem knd_45 : kndP Try.prog 45 = some none := by kernel_rfl
theorem ei_45 : eiP Try.prog 45 = some { size := 5, bytes := 56, zero := [Value.int IntKind.i64 0, Value.int IntKind.i64 0, Value.int IntKind.u64 0, Value.int IntKind.u8 0, Value.slice none 0 0] } := by kernel_rfl
theorem zero_45 : zeroP Try.prog 45 = some (Value.slice none 0 0) := by kernel_rfl
theorem el_45 : elemP Try.prog 45 = some 50 := by kernel_rfl
theorem nt_45 : nilTy Try.prog 45 true = false := by kernel_rfl
theorem nf_45 : nilTy Try.prog 45 false = false := by kernel_rfl
theorem sz_46 : szP Try.prog 46 = some 1 := by kernel_rfl
theorem knd_46 : kndP Try.prog 46 = some none := by kernel_rfl
theorem ei_46 : eiP Try.prog 46 = none := by kernel_rfl
theorem zero_46 : zeroP Try.prog 46 = some (Value.pointer none) := by kernel_rfl
theorem el_46 : elemP Try.prog 46 = none := by kernel_rfl
theorem nt_46 : nilTy Try.prog 46 true = true := by kernel_rfl
theorem nf_46 : nilTy Try.prog 46 false = false := by kernel_rfl
theorem sz_47 : szP Try.prog 47 = some 1 := by kernel_rfl
theorem knd_47 : kndP Try.prog 47 = some none := by kernel_rfl
theorem ei_47 : eiP Try.prog 47 = none := by kernel_rfl
theorem zero_47 : zeroP Try.prog 47 = some (Value.tuple #[Value.pointer none, Value.int IntKind.i64 0]) := by kernel_rfl
theorem el_47 : elemP Try.prog 47 = none := by kernel_rfl
theorem nt_47 : nilTy Try.prog 47 true = false := by kernel_rfl
theorem nf_47 : nilTy Try.prog 47 false = false := by kernel_rfl
theorem sz_48 : szP Try.prog 48 = some 1 := by kernel_rfl
theorem knd_48 : kndP Try.prog 48 = some none := by kernel_rfl
theorem ei_48 : eiP Try.prog 48 = none := by kernel_rfl
theorem zero_48 : zeroP Try.prog 48 = some Value.nilFunc := by kernel_rfl
theorem el_48 : elemP Try.prog 48 = none := by kernel_rfl
theorem nt_48 : nilTy Try.prog 48 true = false := by kernel_rfl
theorem nf_48 : nilTy Try.prog 48 false = false := by kernel_rfl
theorem sz_49 : szP Try.prog 49 = some 5 := by kernel_rfl
theorem knd_49 : kndP Try.prog 49 = some (some 5) := by kernel_rfl
theorem ei_49 : eiP Try.prog 49 = none := by kernel_rfl
theorem zero_49 : zeroP Try.prog 49 = some (Value.agg #[Value.int IntKind.i64 0, Value.int IntKind.i64 0, Value.int IntKind.u64 0, Value.int IntKind.u8 0, Value.slice none 0 0]) := by kernel_rfl
theorem el_49 : elemP Try.prog 49 = none := by kernel_rfl
theorem nt_49 : nilTy Try.prog 49 true = false := by kernel_rfl
theorem nf_49 : nilTy Try.prog 49 false = false := by kernel_rfl
theorem sz_50 : szP Try.prog 50 = some 5 := by kernel_rfl
theorem knd_50 : kndP Try.prog 50 = some (some 5) := by kernel_rfl
theorem ei_50 : eiP Try.prog 50 = none := by kernel_rfl
theorem zero_50 : zeroP Try.prog 50 = some (Value.agg #[Value.int IntKind.i64 0, Value.int IntKind.i64 0, Value.int IntKind.u64 0, Value.int IntKind.u8 0, Value.slice none 0 0]) := by kernel_rfl
theorem el_50 : elemP Try.prog 50 = none := by kernel_rfl
theorem nt_50 : nilTy Try.prog 50 true = false := by kernel_rfl
theorem nf_50 : nilTy Try.prog 50 false = false := by kernel_rfl
theorem sz_51 : szP Try.prog 51 = some 1 := by kernel_rfl
theorem knd_51 : kndP Try.prog 51 = some none := by kernel_rfl
theorem ei_51 : eiP Try.prog 51 = none := by kernel_rfl
theorem zero_51 : zeroP Try.prog 51 = some Value.nilFunc := by kernel_rfl
theorem el_51 : elemP Try.prog 51 = none := by kernel_rfl
theorem nt_51 : nilTy Try.prog 51 true = false := by kernel_rfl
theorem nf_51 : nilTy Try.prog 51 false = false := by kernel_rfl
theorem sz_52 : szP Try.prog 52 = some 1 := by kernel_rfl
theorem knd_52 : kndP Try.prog 52 = some none := by kernel_rfl
theorem ei_52 : eiP Try.prog 52 = none := by kernel_rfl
theorem zero_52 : zeroP Try.prog 52 = some Value.nilFunc := by kernel_rfl
theorem el_52 : elemP Try.prog 52 = none := by kernel_rfl
theorem nt_52 : nilTy Try.prog 52 true = false := by kernel_rfl
theorem nf_52 : nilTy Try.prog 52 false = false := by kernel_rfl
theorem sz_53 : szP Try.prog 53 = some 1 := by kernel_rfl
theorem knd_53 : kndP Try.prog 53 = some none := by kernel_rfl
theorem ei_53 : eiP Try.prog 53 = none := by kernel_rfl
theorem zero_53 : zeroP Try.prog 53 = some Value.nilFunc := by kernel_rfl
theorem el_53 : elemP Try.prog 53 = none := by kernel_rfl
theorem nt_53 : nilTy Try.prog 53 true = false := by kernel_rfl
theorem nf_53 : nilTy Try.prog 53 false = false := by kernel_rfl
theorem sz_54 : szP Try.prog 54 = some 1 := by kernel_rfl
theorem knd_54 : kndP Try.prog 54 = some none := by kernel_rfl
theorem ei_54 : eiP Try.prog 54 = none := by kernel_rfl
theorem zero_54 : zeroP Try.prog 54 = some Value.nilFunc := by kernel_rfl
theorem el_54 : elemP Try.prog 54 = none := by kernel_rfl
theorem nt_54 : nilTy Try.prog 54 true = false := by kernel_rfl
theorem nf_54 : nilTy Try.prog 54 false = false := by kernel_rfl
theorem sz_55 : szP Try.prog 55 = some 2 := by kernel_rfl
theorem knd_55 : kndP Try.prog 55 = some (some 2) := by kernel_rfl
theorem ei_55 : eiP Try.prog 55 = none := by kernel_rfl
theorem zero_55 : zeroP Try.prog 55 = some (Value.agg #[Value.slice none 0 0, Value.float FloatKind.f64 0]) := by kernel_rfl
theorem el_55 : elemP Try.prog 55 = none := by kernel_rfl
theorem nt_55 : nilTy Try.prog 55 true = false := by kernel_rfl
theorem nf_55 : nilTy Try.prog 55 false = false := by kernel_rfl
theorem sz_56 : szP Try.prog 56 = some 2 := by kernel_rfl
theorem knd_56 : kndP Try.prog 56 = some (some 2) := by kernel_rfl
theorem ei_56 : eiP Try.prog 56 = none := by kernel_rfl
theorem zero_56 : zeroP Try.prog 56 = some (Value.agg #[Value.slice none 0 0, Value.float FloatKind.f64 0]) := by kernel_rfl
theorem el_56 : elemP Try.prog 56 = none := by kernel_rfl
theorem nt_56 : nilTy Try.prog 56 true = false := by kernel_rfl
theorem nf_56 : nilTy Try.prog 56 false = false := by kernel_rfl
theorem sz_57 : szP Try.prog 57 = some 1 := by kernel_rfl
theorem knd_57 : kndP Try.prog 57 = some none := by kernel_rfl
theorem ei_57 : eiP Try.prog 57 = none := by kernel_rfl
theorem zero_57 : zeroP Try.prog 57 = some Value.nilFunc := by kernel_rfl
theorem el_57 : elemP Try.prog 57 = none := by kernel_rfl
theorem nt_57 : nilTy Try.prog 57 true = false := by kernel_rfl
theorem nf_57 : nilTy Try.prog 57 false = false := by kernel_rfl
theorem sz_58 : szP Try.prog 58 = some 1 := by kernel_rfl
theorem knd_58 : kndP Try.prog 58 = some none := by kernel_rfl
theorem ei_58 : eiP Try.prog 58 = none := by kernel_rfl
theorem zero_58 : zeroP Try.prog 58 = some Value.nilFunc := by kernel_rfl
theorem el_58 : elemP Try.prog 58 = none := by kernel_rfl
theorem nt_58 : nilTy Try.prog 58 true = false := by kernel_rfl
theorem nf_58 : nilTy Try.prog 58 false = false := by kernel_rfl
theorem sz_59 : szP Try.prog 59 = some 1 := by kernel_rfl
theorem knd_59 : kndP Try.prog 59 = some none := by kernel_rfl
theorem ei_59 : eiP Try.prog 59 = none := by kernel_rfl
theorem zero_59 : zeroP Try.prog 59 = some (Value.int IntKind.u16 0) := by kernel_rfl
theorem el_59 : elemP Try.prog 59 = none := by kernel_rfl
theorem nt_59 : nilTy Try.prog 59 true = false := by kernel_rfl
theorem nf_59 : nilTy Try.prog 59 false = false := by kernel_rfl
theorem sz_60 : szP Try.prog 60 = some 1 := by kernel_rfl
theorem knd_60 : kndP Try.prog 60 = some none := by kernel_rfl
theorem ei_60 : eiP Try.prog 60 = none := by kernel_rfl
theorem zero_60 : zeroP Try.prog 60 = some Value.nilFunc := by kernel_rfl
theorem el_60 : elemP Try.prog 60 = none := by kernel_rfl
theorem nt_60 : nilTy Try.prog 60 true = false := by kernel_rfl
theorem nf_60 : nilTy Try.prog 60 false = false := by kernel_rfl
theorem sz_61 : szP Try.prog 61 = some 1 := by kernel_rfl
theorem knd_61 : kndP Try.prog 61 = some none := by kernel_rfl
theorem ei_61 : eiP Try.prog 61 = none := by kernel_rfl
theorem zero_61 : zeroP Try.prog 61 = some Value.nilFunc := by kernel_rfl
theorem el_61 : elemP Try.prog 61 = none := by kernel_rfl
theorem nt_61 : nilTy Try.prog 61 true = false := by kernel_rfl
theorem nf_61 : nilTy Try.prog 61 false = false := by kernel_rfl
theorem sz_62 : szP Try.prog 62 = some 2 := by kernel_rfl
theorem knd_62 : kndP Try.prog 62 = some (some 2) := by kernel_rfl
theorem ei_62 : eiP Try.prog 62 = none := by kernel_rfl
theorem zero_62 : zeroP Try.prog 62 = some (Value.agg #[Value.slice none 0 0, Value.float FloatKind.f64 0]) := by kernel_rfl
theorem el_62 : elemP Try.prog 62 = none := by kernel_rfl
theorem nt_62 : nilTy Try.prog 62 true = false := by kernel_rfl
theorem nf_62 : nilTy Try.prog 62 false = false := by kernel_rfl
theorem sz_63 : szP Try.prog 63 = some 2 := by kernel_rfl
theorem knd_63 : kndP Try.prog 63 = some (some 2) := by kernel_rfl
theorem ei_63 : eiP Try.prog 63 = none := by kernel_rfl
theorem zero_63 : zeroP Try.prog 63 = some (Value.agg #[Value.slice none 0 0, Value.float FloatKind.f64 0]) := by kernel_rfl
theorem el_63 : elemP Try.prog 63 = none := by kernel_rfl
theorem nt_63 : nilTy Try.prog 63 true = false := by kernel_rfl
theorem nf_63 : nilTy Try.prog 63 false = false := by kernel_rfl
theorem sz_64 : szP Try.prog 64 = some 1 := by kernel_rfl
theorem knd_64 : kndP Try.prog 64 = some none := by kernel_rfl
theorem ei_64 : eiP Try.prog 64 = none := by kernel_rfl
theorem zero_64 : zeroP Try.prog 64 = some Value.nilFunc := by kernel_rfl
theorem el_64 : elemP Try.prog 64 = none := by kernel_rfl
theorem nt_64 : nilTy Try.prog 64 true = false := by kernel_rfl
theorem nf_64 : nilTy Try.prog 64 false = false := by kernel_rfl
theorem sz_65 : szP Try.prog 65 = some 1 := by kernel_rfl
theorem knd_65 : kndP Try.prog 65 = some none := by kernel_rfl
theorem ei_65 : eiP Try.prog 65 = none := by kernel_rfl
theorem zero_65 : zeroP Try.prog 65 = some (Value.pointer none) := by kernel_rfl
theorem el_65 : elemP Try.prog 65 = none := by kernel_rfl
theorem nt_65 : nilTy Try.prog 65 true = true := by kernel_rfl
theorem nf_65 : nilTy Try.prog 65 false = false := by kernel_rfl
theorem sz_66 : szP Try.prog 66 = some 1 := by kernel_rfl
theorem knd_66 : kndP Try.prog 66 = some none := by kernel_rfl
theorem ei_66 : eiP Try.prog 66 = none := by kernel_rfl
theorem zero_66 : zeroP Try.prog 66 = some Value.nilFunc := by kernel_rfl
theorem el_66 : elemP Try.prog 66 = none := by kernel_rfl
theorem nt_66 : nilTy Try.prog 66 true = false := by kernel_rfl
theorem nf_66 : nilTy Try.prog 66 false = false := by kernel_rfl
theorem sz_67 : szP Try.prog 67 = some 1 := by kernel_rfl
theorem knd_67 : kndP Try.prog 67 = some none := by kernel_rfl
theorem ei_67 : eiP Try.prog 67 = none := by kernel_rfl
theorem zero_67 : zeroP Try.prog 67 = some Value.nilFunc := by kernel_rfl
theorem el_67 : elemP Try.prog 67 = none := by kernel_rfl
theorem nt_67 : nilTy Try.prog 67 true = false := by kernel_rfl
theorem nf_67 : nilTy Try.prog 67 false = false := by kernel_rfl
theorem sz_68 : szP Try.prog 68 = some 1 := by kernel_rfl
theorem knd_68 : kndP Try.prog 68 = some none := by kernel_rfl
theorem ei_68 : eiP Try.prog 68 = none := by kernel_rfl
theorem zero_68 : zeroP Try.prog 68 = some Value.nilFunc := by kernel_rfl
theorem el_68 : elemP Try.prog 68 = none := by kernel_rfl
theorem nt_68 : nilTy Try.prog 68 true = false := by kernel_rfl
theorem nf_68 : nilTy Try.prog 68 false = false := by kernel_rfl
theorem sz_69 : szP Try.prog 69 = some 1 := by kernel_rfl
theorem knd_69 : kndP Try.prog 69 = some none := by kernel_rfl
theorem ei_69 : eiP Try.prog 69 = none := by kernel_rfl
theorem zero_69 : zeroP Try.prog 69 = some Value.nilFunc := by kernel_rfl
theorem el_69 : elemP Try.prog 69 = none := by kernel_rfl
theorem nt_69 : nilTy Try.prog 69 true = false := by kernel_rfl
theorem nf_69 : nilTy Try.prog 69 false = false := by kernel_rfl
theorem sz_70 : szP Try.prog 70 = some 1 := by kernel_rfl
theorem knd_70 : kndP Try.prog 70 = some none := by kernel_rfl
theorem ei_70 : eiP Try.prog 70 = none := by kernel_rfl
theorem zero_70 : zeroP Try.prog 70 = some Value.nilFunc := by kernel_rfl
theorem el_70 : elemP Try.prog 70 = none := by kernel_rfl
theorem nt_70 : nilTy Try.prog 70 true = false := by kernel_rfl
theorem nf_70 : nilTy Try.prog 70 false = false := by kernel_rfl
theorem sz_71 : szP Try.prog 71 = some 1 := by kernel_rfl
theorem knd_71 : kndP Try.prog 71 = some none := by kernel_rfl
theorem ei_71 : eiP Try.prog 71 = none := by kernel_rfl
theorem zero_71 : zeroP Try.prog 71 = some Value.nilFunc := by kernel_rfl
theorem el_71 : elemP Try.prog 71 = none := by kernel_rfl
theorem nt_71 : nilTy Try.prog 71 true = false := by kernel_rfl
theorem nf_71 : nilTy Try.prog 71 false = false := by kernel_rfl
theorem sz_72 : szP Try.prog 72 = some 1 := by kernel_rfl
theorem knd_72 : kndP Try.prog 72 = some none := by kernel_rfl
theorem ei_72 : eiP Try.prog 72 = none := by kernel_rfl
theorem zero_72 : zeroP Try.prog 72 = some Value.nilFunc := by kernel_rfl
theorem el_72 : elemP Try.prog 72 = none := by kernel_rfl
theorem nt_72 : nilTy Try.prog 72 true = false := by kernel_rfl
theorem nf_72 : nilTy Try.prog 72 false = false := by kernel_rfl
theorem sz_73 : szP Try.prog 73 = some 1 := by kernel_rfl
theorem knd_73 : kndP Try.prog 73 = some none := by kernel_rfl
theorem ei_73 : eiP Try.prog 73 = none := by kernel_rfl
theorem zero_73 : zeroP Try.prog 73 = some (Value.tuple #[Value.float FloatKind.f64 0, Value.int IntKind.i64 0]) := by kernel_rfl
theorem el_73 : elemP Try.prog 73 = none := by kernel_rfl
theorem nt_73 : nilTy Try.prog 73 true = false := by kernel_rfl
theorem nf_73 : nilTy Try.prog 73 false = false := by kernel_rfl
theorem sz_74 : szP Try.prog 74 = some 1 := by kernel_rfl
theorem knd_74 : kndP Try.prog 74 = some none := by kernel_rfl
theorem ei_74 : eiP Try.prog 74 = none := by kernel_rfl
theorem zero_74 : zeroP Try.prog 74 = some Value.nilFunc := by kernel_rfl
theorem el_74 : elemP Try.prog 74 = none := by kernel_rfl
theorem nt_74 : nilTy Try.prog 74 true = false := by kernel_rfl
theorem nf_74 : nilTy Try.prog 74 false = false := by kernel_rfl
theorem sz_75 : szP Try.prog 75 = some 1 := by kernel_rfl
theorem knd_75 : kndP Try.prog 75 = some none := by kernel_rfl
theorem ei_75 : eiP Try.prog 75 = none := by kernel_rfl
theorem zero_75 : zeroP Try.prog 75 = some Value.nilFunc := by kernel_rfl
theorem el_75 : elemP Try.prog 75 = none := by kernel_rfl
theorem nt_75 : nilTy Try.prog 75 true = false := by kernel_rfl
theorem nf_75 : nilTy Try.prog 75 false = false := by kernel_rfl
theorem sz_76 : szP Try.prog 76 = some 1 := by kernel_rfl
theorem knd_76 : kndP Try.prog 76 = some none := by kernel_rfl
theorem ei_76 : eiP Try.prog 76 = none := by kernel_rfl
theorem zero_76 : zeroP Try.prog 76 = some Value.nilFunc := by kernel_rfl
theorem el_76 : elemP Try.prog 76 = none := by kernel_rfl
theorem nt_76 : nilTy Try.prog 76 true = false := by kernel_rfl
theorem nf_76 : nilTy Try.prog 76 false = false := by kernel_rfl
theorem sz_77 : szP Try.prog 77 = some 1 := by kernel_rfl
theorem knd_77 : kndP Try.prog 77 = some none := by kernel_rfl
theorem ei_77 : eiP Try.prog 77 = none := by kernel_rfl
theorem zero_77 : zeroP Try.prog 77 = some (Value.int IntKind.u64 0) := by kernel_rfl
theorem el_77 : elemP Try.prog 77 = none := by kernel_rfl
theorem nt_77 : nilTy Try.prog 77 true = false := by kernel_rfl
theorem nf_77 : nilTy Try.prog 77 false = false := by kernel_rfl
theorem sz_78 : szP Try.prog 78 = some 1 := by kernel_rfl
theorem knd_78 : kndP Try.prog 78 = some none := by kernel_rfl
theorem ei_78 : eiP Try.prog 78 = none := by kernel_rfl
theorem zero_78 : zeroP Try.prog 78 = some Value.nilFunc := by kernel_rfl
theorem el_78 : elemP Try.prog 78 = none := by kernel_rfl
theorem nt_78 : nilTy Try.prog 78 true = false := by kernel_rfl
theorem nf_78 : nilTy Try.prog 78 false = false := by kernel_rfl
theorem sz_79 : szP Try.prog 79 = some 1 := by kernel_rfl
theorem knd_79 : kndP Try.prog 79 = some none := by kernel_rfl
theorem ei_79 : eiP Try.prog 79 = none := by kernel_rfl
theorem zero_79 : zeroP Try.prog 79 = some Value.nilFunc := by kernel_rfl
theorem el_79 : elemP Try.prog 79 = none := by kernel_rfl
theorem nt_79 : nilTy Try.prog 79 true = false := by kernel_rfl
theorem nf_79 : nilTy Try.prog 79 false = false := by kernel_rfl
theorem sz_80 : szP Try.prog 80 = some 1 := by kernel_rfl
theorem knd_80 : kndP Try.prog 80 = some none := by kernel_rfl
theorem ei_80 : eiP Try.prog 80 = none := by kernel_rfl
theorem zero_80 : zeroP Try.prog 80 = some Value.nilFunc := by kernel_rfl
theorem el_80 : elemP Try.prog 80 = none := by kernel_rfl
theorem nt_80 : nilTy Try.prog 80 true = false := by kernel_rfl
theorem nf_80 : nilTy Try.prog 80 false = false := by kernel_rfl
theorem sz_81 : szP Try.prog 81 = some 1 := by kernel_rfl
theorem knd_81 : kndP Try.prog 81 = some none := by kernel_rfl
theorem ei_81 : eiP Try.prog 81 = none := by kernel_rfl
theorem zero_81 : zeroP Try.prog 81 = some (Value.tuple #[Value.int IntKind.u64 0, Value.bool false]) := by kernel_rfl
theorem el_81 : elemP Try.prog 81 = none := by kernel_rfl
theorem nt_81 : nilTy Try.prog 81 true = false := by kernel_rfl
theorem nf_81 : nilTy Try.prog 81 false = false := by kernel_rfl
theorem sz_82 : szP Try.prog 82 = some 1 := by kernel_rfl
theorem knd_82 : kndP Try.prog 82 = some none := by kernel_rfl
theorem ei_82 : eiP Try.prog 82 = none := by kernel_rfl
theorem zero_82 : zeroP Try.prog 82 = some Value.nilFunc := by kernel_rfl
theorem el_82 : elemP Try.prog 82 = none := by kernel_rfl
theorem nt_82 : nilTy Try.prog 82 true = false := by kernel_rfl
theorem nf_82 : nilTy Try.prog 82 false = false := by kernel_rfl
theorem sz_83 : szP Try.prog 83 = some 1 := by kernel_rfl
theorem knd_83 : kndP Try.prog 83 = some none := by kernel_rfl
theorem ei_83 : eiP Try.prog 83 = none := by kernel_rfl
theorem zero_83 : zeroP Try.prog 83 = some Value.nilFunc := by kernel_rfl
theorem el_83 : elemP Try.prog 83 = none := by kernel_rfl
theorem nt_83 : nilTy Try.prog 83 true = false := by kernel_rfl
theorem nf_83 : nilTy Try.prog 83 false = false := by kernel_rfl
theorem sz_84 : szP Try.prog 84 = some 1 := by kernel_rfl
theorem knd_84 : kndP Try.prog 84 = some none := by kernel_rfl
theorem ei_84 : eiP Try.prog 84 = none := by kernel_rfl
theorem zero_84 : zeroP Try.prog 84 = some Value.nilFunc := by kernel_rfl
theorem el_84 : elemP Try.prog 84 = none := by kernel_rfl
theorem nt_84 : nilTy Try.prog 84 true = false := by kernel_rfl
theorem nf_84 : nilTy Try.prog 84 false = false := by kernel_rfl
theorem sz_85 : szP Try.prog 85 = some 1 := by kernel_rfl
theorem knd_85 : kndP Try.prog 85 = some none := by kernel_rfl
theorem ei_85 : eiP Try.prog 85 = none := by kernel_rfl
theorem zero_85 : zeroP Try.prog 85 = some Value.nilFunc := by kernel_rfl
theorem el_85 : elemP Try.prog 85 = none := by kernel_rfl
theorem nt_85 : nilTy Try.prog 85 true = false := by kernel_rfl
theorem nf_85 : nilTy Try.prog 85 false = false := by kernel_rfl
theorem sz_86 : szP Try.prog 86 = some 4 := by kernel_rfl
theorem knd_86 : kndP Try.prog 86 = some (some 4) := by kernel_rfl
theorem ei_86 : eiP Try.prog 86 = none := by kernel_rfl
theorem zero_86 : zeroP Try.prog 86 = some (Value.agg { toList := [Value.pointer none, Value.pointer none, Value.pointer none, Value.string { data := #[] }] }) := by kernel_rfl
theorem el_86 : elemP Try.prog 86 = none := by kernel_rfl
theorem nt_86 : nilTy Try.prog 86 true = false := by kernel_rfl
theorem nf_86 : nilTy Try.prog 86 false = false := by kernel_rfl
theorem sz_87 : szP Try.prog 87 = some 4 := by kernel_rfl
theorem knd_87 : kndP Try.prog 87 = some (some 4) := by kernel_rfl
theorem ei_87 : eiP Try.prog 87 = none := by kernel_rfl
theorem zero_87 : zeroP Try.prog 87 = some (Value.agg { toList := [Value.pointer none, Value.pointer none, Value.pointer none, Value.string { data := #[] }] }) := by kernel_rfl
theorem el_87 : elemP Try.prog 87 = none := by kernel_rfl
theorem nt_87 : nilTy Try.prog 87 true = false := by kernel_rfl
theorem nf_87 : nilTy Try.prog 87 false = false := by kernel_rfl
theorem sz_88 : szP Try.prog 88 = some 0 := by kernel_rfl
theorem knd_88 : kndP Try.prog 88 = some (some 0) := by kernel_rfl
theorem ei_88 : eiP Try.prog 88 = none := by kernel_rfl
theorem zero_88 : zeroP Try.prog 88 = some (Value.agg #[]) := by kernel_rfl
theorem el_88 : elemP Try.prog 88 = none := by kernel_rfl
theorem nt_88 : nilTy Try.prog 88 true = false := by kernel_rfl
theorem nf_88 : nilTy Try.prog 88 false = false := by kernel_rfl
theorem sz_89 : szP Try.prog 89 = some 0 := by kernel_rfl
theorem knd_89 : kndP Try.prog 89 = some (some 0) := by kernel_rfl
theorem ei_89 : eiP Try.prog 89 = none := by kernel_rfl
theorem zero_89 : zeroP Try.prog 89 = some (Value.agg #[]) := by kernel_rfl
theorem el_89 : elemP Try.prog 89 = none := by kernel_rfl
theorem nt_89 : nilTy Try.prog 89 true = false := by kernel_rfl
theorem nf_89 : nilTy Try.prog 89 false = false := by kernel_rfl
theorem sz_90 : szP Try.prog 90 = some 0 := by kernel_rfl
theorem knd_90 : kndP Try.prog 90 = some (some 0) := by kernel_rfl
theorem ei_90 : eiP Try.prog 90 = none := by kernel_rfl
theorem zero_90 : zeroP Try.prog 90 = some (Value.agg #[]) := by kernel_rfl
theorem el_90 : elemP Try.prog 90 = none := by kernel_rfl
theorem nt_90 : nilTy Try.prog 90 true = false := by kernel_rfl
theorem nf_90 : nilTy Try.prog 90 false = false := by kernel_rfl
theorem sz_91 : szP Try.prog 91 = some 1 := by kernel_rfl
theorem knd_91 : kndP Try.prog 91 = some none := by kernel_rfl
theorem ei_91 : eiP Try.prog 91 = none := by kernel_rfl
theorem zero_91 : zeroP Try.prog 91 = some Value.nilFunc := by kernel_rfl
theorem el_91 : elemP Try.prog 91 = none := by kernel_rfl
theorem nt_91 : nilTy Try.prog 91 true = false := by kernel_rfl
theorem nf_91 : nilTy Try.prog 91 false = false := by kernel_rfl
theorem sz_92 : szP Try.prog 92 = some 1 := by kernel_rfl
theorem knd_92 : kndP Try.prog 92 = some none := by kernel_rfl
theorem ei_92 : eiP Try.prog 92 = none := by kernel_rfl
theorem zero_92 : zeroP Try.prog 92 = some (Value.int IntKind.u32 0) := by kernel_rfl
theorem el_92 : elemP Try.prog 92 = none := by kernel_rfl
theorem nt_92 : nilTy Try.prog 92 true = false := by kernel_rfl
theorem nf_92 : nilTy Try.prog 92 false = false := by kernel_rfl
theorem sz_93 : szP Try.prog 93 = some 1 := by kernel_rfl
theorem knd_93 : kndP Try.prog 93 = some none := by kernel_rfl
theorem ei_93 : eiP Try.prog 93 = none := by kernel_rfl
theorem zero_93 : zeroP Try.prog 93 = some (Value.int IntKind.u8 0) := by kernel_rfl
theorem el_93 : elemP Try.prog 93 = none := by kernel_rfl
theorem nt_93 : nilTy Try.prog 93 true = false := by kernel_rfl
theorem nf_93 : nilTy Try.prog 93 false = false := by kernel_rfl
theorem sz_94 : szP Try.prog 94 = some 1 := by kernel_rfl
theorem knd_94 : kndP Try.prog 94 = some none := by kernel_rfl
theorem ei_94 : eiP Try.prog 94 = none := by kernel_rfl
theorem zero_94 : zeroP Try.prog 94 = some (Value.int IntKind.u8 0) := by kernel_rfl
theorem el_94 : elemP Try.prog 94 = none := by kernel_rfl
theorem nt_94 : nilTy Try.prog 94 true = false := by kernel_rfl
theorem nf_94 : nilTy Try.prog 94 false = false := by kernel_rfl
theorem sz_95 : szP Try.prog 95 = some 1 := by kernel_rfl
theorem knd_95 : kndP Try.prog 95 = some none := by kernel_rfl
theorem ei_95 : eiP Try.prog 95 = none := by kernel_rfl
theorem zero_95 : zeroP Try.prog 95 = some Value.nilFunc := by kernel_rfl
theorem el_95 : elemP Try.prog 95 = none := by kernel_rfl
theorem nt_95 : nilTy Try.prog 95 true = false := by kernel_rfl
theorem nf_95 : nilTy Try.prog 95 false = false := by kernel_rfl
theorem sz_96 : szP Try.prog 96 = some 1 := by kernel_rfl
theorem knd_96 : kndP Try.prog 96 = some none := by kernel_rfl
theorem ei_96 : eiP Try.prog 96 = none := by kernel_rfl
theorem zero_96 : zeroP Try.prog 96 = some (Value.pointer none) := by kernel_rfl
theorem el_96 : elemP Try.prog 96 = none := by kernel_rfl
theorem nt_96 : nilTy Try.prog 96 true = true := by kernel_rfl
theorem nf_96 : nilTy Try.prog 96 false = false := by kernel_rfl
theorem sz_97 : szP Try.prog 97 = some 1 := by kernel_rfl
theorem knd_97 : kndP Try.prog 97 = some none := by kernel_rfl
theorem ei_97 : eiP Try.prog 97 = none := by kernel_rfl
theorem zero_97 : zeroP Try.prog 97 = some (Value.int IntKind.i32 0) := by kernel_rfl
theorem el_97 : elemP Try.prog 97 = none := by kernel_rfl
theorem nt_97 : nilTy Try.prog 97 true = false := by kernel_rfl
theorem nf_97 : nilTy Try.prog 97 false = false := by kernel_rfl
theorem sz_98 : szP Try.prog 98 = some 1 := by kernel_rfl
theorem knd_98 : kndP Try.prog 98 = some none := by kernel_rfl
theorem ei_98 : eiP Try.prog 98 = none := by kernel_rfl
theorem zero_98 : zeroP Try.prog 98 = some (Value.int IntKind.i32 0) := by kernel_rfl
theorem el_98 : elemP Try.prog 98 = none := by kernel_rfl
theorem nt_98 : nilTy Try.prog 98 true = false := by kernel_rfl
theorem nf_98 : nilTy Try.prog 98 false = false := by kernel_rfl
theorem sz_99 : szP Try.prog 99 = some 11 := by kernel_rfl
theorem knd_99 : kndP Try.prog 99 = some (some 11) := by kernel_rfl
theorem ei_99 : eiP Try.prog 99 = none := by kernel_rfl
theorem zero_99 : zeroP Try.prog 99 = some (Value.agg #[Value.int IntKind.u64 0, Value.int IntKind.u64 0, Value.int IntKind.u32 0, Value.int IntKind.u8 0, Value.int IntKind.u8 0, Value.int IntKind.u8 0, Value.int IntKind.u8 0, Value.nilFunc, Value.pointer none, Value.int IntKind.i32 0, Value.int IntKind.i32 0]) := by kernel_rfl
theorem el_99 : elemP Try.prog 99 = none := by kernel_rfl
theorem nt_99 : nilTy Try.prog 99 true = false := by kernel_rfl
theorem nf_99 : nilTy Try.prog 99 false = false := by kernel_rfl
theorem sz_100 : szP Try.prog 100 = some 11 := by kernel_rfl
theorem knd_100 : kndP Try.prog 100 = some (some 11) := by kernel_rfl
theorem ei_100 : eiP Try.prog 100 = none := by kernel_rfl
theorem zero_100 : zeroP Try.prog 100 = some (Value.agg #[Value.int IntKind.u64 0, Value.int IntKind.u64 0, Value.int IntKind.u32 0, Value.int IntKind.u8 0, Value.int IntKind.u8 0, Value.int IntKind.u8 0, Value.int IntKind.u8 0, Value.nilFunc, Value.pointer none, Value.int IntKind.i32 0, Value.int IntKind.i32 0]) := by kernel_rfl
theorem el_100 : elemP Try.prog 100 = none := by kernel_rfl
theorem nt_100 : nilTy Try.prog 100 true = false := by kernel_rfl
theorem nf_100 : nilTy Try.prog 100 false = false := by kernel_rfl
theorem sz_101 : szP Try.prog 101 = some 1 := by kernel_rfl
theorem knd_101 : kndP Try.prog 101 = some none := by kernel_rfl
theorem ei_101 : eiP Try.prog 101 = none := by kernel_rfl
theorem zero_101 : zeroP Try.prog 101 = some (Value.pointer none) := by kernel_rfl
theorem el_101 : elemP Try.prog 101 = none := by kernel_rfl
theorem nt_101 : nilTy Try.prog 101 true = false := by kernel_rfl
theorem nf_101 : nilTy Try.prog 101 false = false := by kernel_rfl
theorem fld_7_0 : fieldP Try.prog 7 0 = some 0 := by kernel_rfl
theorem fld_7_1 : fieldP Try.prog 7 1 = some 1 := by kernel_rfl
theorem fld_7_2 : fieldP Try.prog 7 2 = some 2 := by kernel_rfl
theorem fld_7_3 : fieldP Try.prog 7 3 = some 3 := by kernel_rfl
theorem fld_8_0 : fieldP Try.prog 8 0 = some 0 := by kernel_rfl
theorem fld_8_1 : fieldP Try.prog 8 1 = some 1 := by kernel_rfl
theorem fld_8_2 : fieldP Try.prog 8 2 = some 2 := by kernel_rfl
theorem fld_8_3 : fieldP Try.prog 8 3 = some 3 := by kernel_rfl
theorem fld_13_0 : fieldP Try.prog 13 0 = some 0 := by kernel_rfl
theorem fld_13_1 : fieldP Try.prog 13 1 = some 1 := by kernel_rfl
theorem fld_14_0 : fieldP Try.prog 14 0 = some 0 := by kernel_rfl
theorem fld_14_1 : fieldP Try.prog 14 1 = some 1 := by kernel_rfl
theorem fld_18_0 : fieldP Try.prog 18 0 = some 0 := by kernel_rfl
theorem fld_19_0 : fieldP Try.prog 19 0 = some 0 := by kernel_rfl
theorem fld_49_0 : fieldP Try.prog 49 0 = some 0 := by kernel_rfl
theorem fld_49_1 : fieldP Try.prog 49 1 = some 1 := by kernel_rfl
theorem fld_49_2 : fieldP Try.prog 49 2 = some 2 := by kernel_rfl
theorem fld_49_3 : fieldP Try.prog 49 3 = some 3 := by kernel_rfl
theorem fld_49_4 : fieldP Try.prog 49 4 = some 4 := by kernel_rfl
theorem fld_50_0 : fieldP Try.prog 50 0 = some 0 := by kernel_rfl
theorem fld_50_1 : fieldP Try.prog 50 1 = some 1 := by kernel_rfl
theorem fld_50_2 : fieldP Try.prog 50 2 = some 2 := by kernel_rfl
theorem fld_50_3 : fieldP Try.prog 50 3 = some 3 := by kernel_rfl
theorem fld_50_4 : fieldP Try.prog 50 4 = some 4 := by kernel_rfl
theorem fld_55_0 : fieldP Try.prog 55 0 = some 0 := by kernel_rfl
theorem fld_55_1 : fieldP Try.prog 55 1 = some 1 := by kernel_rfl
theorem fld_56_0 : fieldP Try.prog 56 0 = some 0 := by kernel_rfl
theorem fld_56_1 : fieldP Try.prog 56 1 = some 1 := by kernel_rfl
theorem fld_62_0 : fieldP Try.prog 62 0 = some 0 := by kernel_rfl
theorem fld_62_1 : fieldP Try.prog 62 1 = some 1 := by kernel_rfl
theorem fld_63_0 : fieldP Try.prog 63 0 = some 0 := by kernel_rfl
theorem fld_63_1 : fieldP Try.prog 63 1 = some 1 := by kernel_rfl
theorem fld_86_0 : fieldP Try.prog 86 0 = some 0 := by kernel_rfl
theorem fld_86_1 : fieldP Try.prog 86 1 = some 1 := by kernel_rfl
theorem fld_86_2 : fieldP Try.prog 86 2 = some 2 := by kernel_rfl
theorem fld_86_3 : fieldP Try.prog 86 3 = some 3 := by kernel_rfl
theorem fld_87_0 : fieldP Try.prog 87 0 = some 0 := by kernel_rfl
theorem fld_87_1 : fieldP Try.prog 87 1 = some 1 := by kernel_rfl
theorem fld_87_2 : fieldP Try.prog 87 2 = some 2 := by kernel_rfl
theorem fld_87_3 : fieldP Try.prog 87 3 = some 3 := by kernel_rfl
theorem fld_89_0 : fieldP Try.prog 89 0 = none := by kernel_rfl
theorem fld_90_0 : fieldP Try.prog 90 0 = none := by kernel_rfl
theorem fld_99_0 : fieldP Try.prog 99 0 = some 0 := by kernel_rfl
theorem fld_99_1 : fieldP Try.prog 99 1 = some 1 := by kernel_rfl
theorem fld_99_2 : fieldP Try.prog 99 2 = some 2 := by kernel_rfl
theorem fld_99_3 : fieldP Try.prog 99 3 = some 3 := by kernel_rfl
theorem fld_99_4 : fieldP Try.prog 99 4 = some 4 := by kernel_rfl
theorem fld_99_5 : fieldP Try.prog 99 5 = some 5 := by kernel_rfl
theorem fld_99_6 : fieldP Try.prog 99 6 = some 6 := by kernel_rfl
theorem fld_99_7 : fieldP Try.prog 99 7 = some 7 := by kernel_rfl
theorem fld_99_8 : fieldP Try.prog 99 8 = some 8 := by kernel_rfl
theorem fld_99_9 : fieldP Try.prog 99 9 = some 9 := by kernel_rfl
theorem fld_99_10 : fieldP Try.prog 99 10 = some 10 := by kernel_rfl
theorem fld_100_0 : fieldP Try.prog 100 0 = some 0 := by kernel_rfl
theorem fld_100_1 : fieldP Try.prog 100 1 = some 1 := by kernel_rfl
theorem fld_100_2 : fieldP Try.prog 100 2 = some 2 := by kernel_rfl
theorem fld_100_3 : fieldP Try.prog 100 3 = some 3 := by kernel_rfl
theorem fld_100_4 : fieldP Try.prog 100 4 = some 4 := by kernel_rfl
theorem fld_100_5 : fieldP Try.prog 100 5 = some 5 := by kernel_rfl
theorem fld_100_6 : fieldP Try.prog 100 6 = some 6 := by kernel_rfl
theorem fld_100_7 : fieldP Try.prog 100 7 = some 7 := by kernel_rfl
theorem fld_100_8 : fieldP Try.prog 100 8 = some 8 := by kernel_rfl
theorem fld_100_9 : fieldP Try.prog 100 9 = some 9 := by kernel_rfl
theorem fld_100_10 : fieldP Try.prog 100 10 = some 10 := by kernel_rfl
attribute [simp] sz_0 knd_0 ei_0 zero_0 el_0 nt_0 nf_0 sz_1 knd_1 ei_1 zero_1 el_1 nt_1 nf_1 sz_2 knd_2 ei_2 zero_2 el_2 nt_2 nf_2 sz_3 knd_3 ei_3 zero_3 el_3 nt_3 nf_3 sz_4 knd_4 ei_4 zero_4 el_4 nt_4 nf_4 sz_5 knd_5 ei_5 zero_5 el_5 nt_5 nf_5 sz_6 knd_6 ei_6 zero_6 el_6 nt_6 nf_6 sz_7 knd_7 ei_7 zero_7 el_7 nt_7 nf_7 sz_8 knd_8 ei_8 zero_8 el_8 nt_8 nf_8 sz_9 knd_9 ei_9 zero_9 el_9 nt_9 nf_9 sz_10 knd_10 ei_10 zero_10 el_10 nt_10 nf_10 sz_11 knd_11 ei_11 zero_11 el_11 nt_11 nf_11 sz_12 knd_12 ei_12 zero_12 el_12 nt_12 nf_12 sz_13 knd_13 ei_13 zero_13 el_13 nt_13 nf_13 sz_14 knd_14 ei_14 zero_14 el_14 nt_14 nf_14 sz_15 knd_15 ei_15 zero_15 el_15 nt_15 nf_15 sz_16 knd_16 ei_16 zero_16 el_16 nt_16 nf_16 sz_17 knd_17 ei_17 zero_17 el_17 nt_17 nf_17 sz_18 knd_18 ei_18 zero_18 el_18 nt_18 nf_18 sz_19 knd_19 ei_19 zero_19 el_19 nt_19 nf_19 sz_20 knd_20 ei_20 zero_20 el_20 nt_20 nf_20 sz_21 knd_21 ei_21 zero_21 el_21 nt_21 nf_21 sz_22 knd_22 ei_22 zero_22 el_22 nt_22 nf_22 sz_23 knd_23 ei_23 zero_23 el_23 nt_23 nf_23 sz_24 knd_24 ei_24 zero_24 el_24 nt_24 nf_24 sz_25 knd_25 ei_25 zero_25 el_25 nt_25 nf_25 sz_26 knd_26 ei_26 zero_26 el_26 nt_26 nf_26 sz_27 knd_27 ei_27 zero_27 el_27 nt_27 nf_27 sz_28 knd_28 ei_28 zero_28 el_28 nt_28 nf_28 sz_29 knd_29 ei_29 zero_29 el_29 nt_29 nf_29 sz_30 knd_30 ei_30 zero_30 el_30 nt_30 nf_30 sz_31 knd_31 ei_31 zero_31 el_31 nt_31 nf_31 sz_32 knd_32 ei_32 zero_32 el_32 nt_32 nf_32 sz_33 knd_33 ei_33 zero_33 el_33 nt_33 nf_33 sz_34 knd_34 ei_34 zero_34 el_34 nt_34 nf_34 sz_35 knd_35 ei_35 zero_35 el_35 nt_35 nf_35 sz_36 knd_36 ei_36 zero_36 el_36 nt_36 nf_36 sz_37 knd_37 ei_37 zero_37 el_37 nt_37 nf_37 sz_38 knd_38 ei_38 zero_38 el_38 nt_38 nf_38 sz_39 knd_39 ei_39 zero_39 el_39 nt_39 nf_39 sz_40 knd_40 ei_40 zero_40 el_40 nt_40 nf_40 sz_41 knd_41 ei_41 zero_41 el_41 nt_41 nf_41 sz_42 knd_42 ei_42 zero_42 el_42 nt_42 nf_42 sz_43 knd_43 ei_43 zero_43 el_43 nt_43 nf_43 sz_44 knd_44 ei_44 zero_44 el_44 nt_44 nf_44 sz_45 knd_45 ei_45 zero_45 el_45 nt_45 nf_45 sz_46 knd_46 ei_46 zero_46 el_46 nt_46 nf_46 sz_47 knd_47 ei_47 zero_47 el_47 nt_47 nf_47 sz_48 knd_48 ei_48 zero_48 el_48 nt_48 nf_48 sz_49 knd_49 ei_49 zero_49 el_49 nt_49 nf_49 sz_50 knd_50 ei_50 zero_50 el_50 nt_50 nf_50 sz_51 knd_51 ei_51 zero_51 el_51 nt_51 nf_51 sz_52 knd_52 ei_52 zero_52 el_52 nt_52 nf_52 sz_53 knd_53 ei_53 zero_53 el_53 nt_53 nf_53 sz_54 knd_54 ei_54 zero_54 el_54 nt_54 nf_54 sz_55 knd_55 ei_55 zero_55 el_55 nt_55 nf_55 sz_56 knd_56 ei_56 zero_56 el_56 nt_56 nf_56 sz_57 knd_57 ei_57 zero_57 el_57 nt_57 nf_57 sz_58 knd_58 ei_58 zero_58 el_58 nt_58 nf_58 sz_59 knd_59 ei_59 zero_59 el_59 nt_59 nf_59 sz_60 knd_60 ei_60 zero_60 el_60 nt_60 nf_60 sz_61 knd_61 ei_61 zero_61 el_61 nt_61 nf_61 sz_62 knd_62 ei_62 zero_62 el_62 nt_62 nf_62 sz_63 knd_63 ei_63 zero_63 el_63 nt_63 nf_63 sz_64 knd_64 ei_64 zero_64 el_64 nt_64 nf_64 sz_65 knd_65 ei_65 zero_65 el_65 nt_65 nf_65 sz_66 knd_66 ei_66 zero_66 el_66 nt_66 nf_66 sz_67 knd_67 ei_67 zero_67 el_67 nt_67 nf_67 sz_68 knd_68 ei_68 zero_68 el_68 nt_68 nf_68 sz_69 knd_69 ei_69 zero_69 el_69 nt_69 nf_69 sz_70 knd_70 ei_70 zero_70 el_70 nt_70 nf_70 sz_71 knd_71 ei_71 zero_71 el_71 nt_71 nf_71 sz_72 knd_72 ei_72 zero_72 el_72 nt_72 nf_72 sz_73 knd_73 ei_73 zero_73 el_73 nt_73 nf_73 sz_74 knd_74 ei_74 zero_74 el_74 nt_74 nf_74 sz_75 knd_75 ei_75 zero_75 el_75 nt_75 nf_75 sz_76 knd_76 ei_76 zero_76 el_76 nt_76 nf_76 sz_77 knd_77 ei_77 zero_77 el_77 nt_77 nf_77 sz_78 knd_78 ei_78 zero_78 el_78 nt_78 nf_78 sz_79 knd_79 ei_79 zero_79 el_79 nt_79 nf_79 sz_80 knd_80 ei_80 zero_80 el_80 nt_80 nf_80 sz_81 knd_81 ei_81 zero_81 el_81 nt_81 nf_81 sz_82 knd_82 ei_82 zero_82 el_82 nt_82 nf_82 sz_83 knd_83 ei_83 zero_83 el_83 nt_83 nf_83 sz_84 knd_84 ei_84 zero_84 el_84 nt_84 nf_84 sz_85 knd_85 ei_85 zero_85 el_85 nt_85 nf_85 sz_86 knd_86 ei_86 zero_86 el_86 nt_86 nf_86 sz_87 knd_87 ei_87 zero_87 el_87 nt_87 nf_87 sz_88 knd_88 ei_88 zero_88 el_88 nt_88 nf_88 sz_89 knd_89 ei_89 zero_89 el_89 nt_89 nf_89 sz_90 knd_90 ei_90 zero_90 el_90 nt_90 nf_90 sz_91 knd_91 ei_91 zero_91 el_91 nt_91 nf_91 sz_92 knd_92 ei_92 zero_92 el_92 nt_92 nf_92 sz_93 knd_93 ei_93 zero_93 el_93 nt_93 nf_93 sz_94 knd_94 ei_94 zero_94 el_94 nt_94 nf_94 sz_95 knd_95 ei_95 zero_95 el_95 nt_95 nf_95 sz_96 knd_96 ei_96 zero_96 el_96 nt_96 nf_96 sz_97 knd_97 ei_97 zero_97 el_97 nt_97 nf_97 sz_98 knd_98 ei_98 zero_98 el_98 nt_98 nf_98 sz_99 knd_99 ei_99 zero_99 el_99 nt_99 nf_99 sz_100 knd_100 ei_100 zero_100 el_100 nt_100 nf_100 sz_101 knd_101 ei_101 zero_101 el_101 nt_101 nf_101 fld_7_0 fld_7_1 fld_7_2 fld_7_3 fld_8_0 fld_8_1 fld_8_2 fld_8_3 fld_13_0 fld_13_1 fld_14_0 fld_14_1 fld_18_0 fld_19_0 fld_49_0 fld_49_1 fld_49_2 fld_49_3 fld_49_4 fld_50_0 fld_50_1 fld_50_2 fld_50_3 fld_50_4 fld_55_0 fld_55_1 fld_56_0 fld_56_1 fld_62_0 fld_62_1 fld_63_0 fld_63_1 fld_86_0 fld_86_1 fld_86_2 fld_86_3 fld_87_0 fld_87_1 fld_87_2 fld_87_3 fld_89_0 fld_90_0 fld_99_0 fld_99_1 fld_99_2 fld_99_3 fld_99_4 fld_99_5 fld_99_6 fld_99_7 fld_99_8 fld_99_9 fld_99_10 fld_100_0 fld_100_1 fld_100_2 fld_100_3 fld_100_4 fld_100_5 fld_100_6 fld_100_7 fld_100_8 fld_100_9 fld_100_10
end Go.VL.Try
