/- The relax seat: Ra. Conditions: none. -/
import Derived.Test.YtmekfllddifglaaDoorP10
import Derived.Test.YtmekfllddifglaaDoorProg
import Derived.KernelRfl
set_option linter.unusedVariables false
set_option linter.unusedSimpArgs false
/- Facts on the types, as simp lemmas (written by tyfacts.py). Conditions: none. -/
set_option linter.unusedVariables false
namespace Go.Proofs.YtmekfllddifglaaDoor.AM
open Go
@[simp] theorem undT1 : undT Tryd.prog 1 = true := by kernel_rfl
@[simp] theorem aggT1 : aggT Tryd.prog 1 = false := by kernel_rfl
@[simp] theorem szT1 : szT Tryd.prog 1 = some 1 := by kernel_rfl
@[simp] theorem concT1 : concreteT Tryd.prog 1 = true := by kernel_rfl
@[simp] theorem zeroA1 : zeroA Tryd.prog 1 = some (.v (.nilFunc)) := by kernel_rfl
@[simp] theorem zerosT1 : zerosT Tryd.prog 1 = some [.v (.nilFunc)] := by kernel_rfl
theorem elT1 : elT Tryd.prog 1 = some (1, 8, [.nilFunc], .v (.nilFunc)) := by kernel_rfl
@[simp] theorem undT2 : undT Tryd.prog 2 = true := by kernel_rfl
@[simp] theorem aggT2 : aggT Tryd.prog 2 = false := by kernel_rfl
@[simp] theorem szT2 : szT Tryd.prog 2 = some 1 := by kernel_rfl
@[simp] theorem concT2 : concreteT Tryd.prog 2 = true := by kernel_rfl
@[simp] theorem intT2 : intT Tryd.prog 2 = some .i64 := by kernel_rfl
@[simp] theorem keyT2 : keyT Tryd.prog 2 = some (.int .i64) := by kernel_rfl
@[simp] theorem u8T2 : u8T Tryd.prog 2 = false := by kernel_rfl
@[simp] theorem zeroA2 : zeroA Tryd.prog 2 = some (.v (.int .i64 0)) := by kernel_rfl
@[simp] theorem zerosT2 : zerosT Tryd.prog 2 = some [.v (.int .i64 0)] := by kernel_rfl
theorem elT2 : elT Tryd.prog 2 = some (1, 8, [.int .i64 0], .v (.int .i64 0)) := by kernel_rfl
@[simp] theorem undT3 : undT Tryd.prog 3 = true := by kernel_rfl
@[simp] theorem aggT3 : aggT Tryd.prog 3 = false := by kernel_rfl
@[simp] theorem szT3 : szT Tryd.prog 3 = some 1 := by kernel_rfl
@[simp] theorem concT3 : concreteT Tryd.prog 3 = true := by kernel_rfl
@[simp] theorem intT3 : intT Tryd.prog 3 = some .i64 := by kernel_rfl
@[simp] theorem keyT3 : keyT Tryd.prog 3 = some (.int .i64) := by kernel_rfl
@[simp] theorem u8T3 : u8T Tryd.prog 3 = false := by kernel_rfl
@[simp] theorem zeroA3 : zeroA Tryd.prog 3 = some (.v (.int .i64 0)) := by kernel_rfl
@[simp] theorem zerosT3 : zerosT Tryd.prog 3 = some [.v (.int .i64 0)] := by kernel_rfl
theorem elT3 : elT Tryd.prog 3 = some (1, 8, [.int .i64 0], .v (.int .i64 0)) := by kernel_rfl
@[simp] theorem undT4 : undT Tryd.prog 4 = true := by kernel_rfl
@[simp] theorem aggT4 : aggT Tryd.prog 4 = false := by kernel_rfl
@[simp] theorem szT4 : szT Tryd.prog 4 = some 1 := by kernel_rfl
@[simp] theorem concT4 : concreteT Tryd.prog 4 = true := by kernel_rfl
@[simp] theorem boolT4 : boolT Tryd.prog 4 = true := by kernel_rfl
@[simp] theorem zeroA4 : zeroA Tryd.prog 4 = some (.v (.bool false)) := by kernel_rfl
@[simp] theorem zerosT4 : zerosT Tryd.prog 4 = some [.v (.bool false)] := by kernel_rfl
theorem elT4 : elT Tryd.prog 4 = some (1, 1, [.bool false], .v (.bool false)) := by kernel_rfl
@[simp] theorem undT5 : undT Tryd.prog 5 = true := by kernel_rfl
@[simp] theorem aggT5 : aggT Tryd.prog 5 = false := by kernel_rfl
@[simp] theorem szT5 : szT Tryd.prog 5 = some 1 := by kernel_rfl
@[simp] theorem concT5 : concreteT Tryd.prog 5 = true := by kernel_rfl
@[simp] theorem intT5 : intT Tryd.prog 5 = some .u8 := by kernel_rfl
@[simp] theorem keyT5 : keyT Tryd.prog 5 = some (.int .u8) := by kernel_rfl
@[simp] theorem u8T5 : u8T Tryd.prog 5 = true := by kernel_rfl
@[simp] theorem zeroA5 : zeroA Tryd.prog 5 = some (.v (.int .u8 0)) := by kernel_rfl
@[simp] theorem zerosT5 : zerosT Tryd.prog 5 = some [.v (.int .u8 0)] := by kernel_rfl
theorem elT5 : elT Tryd.prog 5 = some (1, 1, [.int .u8 0], .v (.int .u8 0)) := by kernel_rfl
@[simp] theorem undT6 : undT Tryd.prog 6 = true := by kernel_rfl
@[simp] theorem aggT6 : aggT Tryd.prog 6 = false := by kernel_rfl
@[simp] theorem szT6 : szT Tryd.prog 6 = some 1 := by kernel_rfl
@[simp] theorem concT6 : concreteT Tryd.prog 6 = true := by kernel_rfl
@[simp] theorem intT6 : intT Tryd.prog 6 = some .u8 := by kernel_rfl
@[simp] theorem keyT6 : keyT Tryd.prog 6 = some (.int .u8) := by kernel_rfl
@[simp] theorem u8T6 : u8T Tryd.prog 6 = true := by kernel_rfl
@[simp] theorem zeroA6 : zeroA Tryd.prog 6 = some (.v (.int .u8 0)) := by kernel_rfl
@[simp] theorem zerosT6 : zerosT Tryd.prog 6 = some [.v (.int .u8 0)] := by kernel_rfl
theorem elT6 : elT Tryd.prog 6 = some (1, 1, [.int .u8 0], .v (.int .u8 0)) := by kernel_rfl
@[simp] theorem undT7 : undT Tryd.prog 7 = true := by kernel_rfl
@[simp] theorem aggT7 : aggT Tryd.prog 7 = true := by kernel_rfl
@[simp] theorem szT7 : szT Tryd.prog 7 = some 4 := by kernel_rfl
@[simp] theorem concT7 : concreteT Tryd.prog 7 = true := by kernel_rfl
@[simp] theorem zeroA7 : zeroA Tryd.prog 7 = some (.agg [.v (.int .i64 0), .v (.int .i64 0), .v (.bool false), .v (.int .u8 0)]) := by kernel_rfl
@[simp] theorem zerosT7 : zerosT Tryd.prog 7 = some [.v (.int .i64 0), .v (.int .i64 0), .v (.bool false), .v (.int .u8 0)] := by kernel_rfl
theorem elT7 : elT Tryd.prog 7 = some (4, 24, [.int .i64 0, .int .i64 0, .bool false, .int .u8 0], .agg [.v (.int .i64 0), .v (.int .i64 0), .v (.bool false), .v (.int .u8 0)]) := by kernel_rfl
theorem placesL7 : placesL Tryd.prog 7 = some ([.int .i64 0, .int .i64 0, .bool false, .int .u8 0], [(0, 1), (1, 1), (2, 1), (3, 1)]) := by kernel_rfl
@[simp] theorem bld7 (ps : List (Nat × AV)) (S : Subs) : (aBuild Tryd.prog 7 ps).run S = thenR (liveR ps S) fun ps' S => (fillA (([(0, 1), (1, 1), (2, 1), (3, 1)] : List (Nat × Nat))[·]?) [.v (.int .i64 0), .v (.int .i64 0), .v (.bool false), .v (.int .u8 0)] ps').map fun r => (.agg r, S) := build_run placesL7 ps S
@[simp] theorem fieldT7_0 : fieldT Tryd.prog 7 0 = some 0 := by kernel_rfl
@[simp] theorem fieldT7_1 : fieldT Tryd.prog 7 1 = some 1 := by kernel_rfl
@[simp] theorem fieldT7_2 : fieldT Tryd.prog 7 2 = some 2 := by kernel_rfl
@[simp] theorem fieldT7_3 : fieldT Tryd.prog 7 3 = some 3 := by kernel_rfl
@[simp] theorem undT8 : undT Tryd.prog 8 = true := by kernel_rfl
@[simp] theorem aggT8 : aggT Tryd.prog 8 = true := by kernel_rfl
@[simp] theorem szT8 : szT Tryd.prog 8 = some 4 := by kernel_rfl
@[simp] theorem concT8 : concreteT Tryd.prog 8 = true := by kernel_rfl
@[simp] theorem zeroA8 : zeroA Tryd.prog 8 = some (.agg [.v (.int .i64 0), .v (.int .i64 0), .v (.bool false), .v (.int .u8 0)]) := by kernel_rfl
@[simp] theorem zerosT8 : zerosT Tryd.prog 8 = some [.v (.int .i64 0), .v (.int .i64 0), .v (.bool false), .v (.int .u8 0)] := by kernel_rfl
theorem elT8 : elT Tryd.prog 8 = some (4, 24, [.int .i64 0, .int .i64 0, .bool false, .int .u8 0], .agg [.v (.int .i64 0), .v (.int .i64 0), .v (.bool false), .v (.int .u8 0)]) := by kernel_rfl
theorem placesL8 : placesL Tryd.prog 8 = some ([.int .i64 0, .int .i64 0, .bool false, .int .u8 0], [(0, 1), (1, 1), (2, 1), (3, 1)]) := by kernel_rfl
@[simp] theorem bld8 (ps : List (Nat × AV)) (S : Subs) : (aBuild Tryd.prog 8 ps).run S = thenR (liveR ps S) fun ps' S => (fillA (([(0, 1), (1, 1), (2, 1), (3, 1)] : List (Nat × Nat))[·]?) [.v (.int .i64 0), .v (.int .i64 0), .v (.bool false), .v (.int .u8 0)] ps').map fun r => (.agg r, S) := build_run placesL8 ps S
@[simp] theorem fieldT8_0 : fieldT Tryd.prog 8 0 = some 0 := by kernel_rfl
@[simp] theorem fieldT8_1 : fieldT Tryd.prog 8 1 = some 1 := by kernel_rfl
@[simp] theorem fieldT8_2 : fieldT Tryd.prog 8 2 = some 2 := by kernel_rfl
@[simp] theorem fieldT8_3 : fieldT Tryd.prog 8 3 = some 3 := by kernel_rfl
@[simp] theorem undT9 : undT Tryd.prog 9 = true := by kernel_rfl
@[simp] theorem aggT9 : aggT Tryd.prog 9 = false := by kernel_rfl
@[simp] theorem szT9 : szT Tryd.prog 9 = some 1 := by kernel_rfl
@[simp] theorem concT9 : concreteT Tryd.prog 9 = true := by kernel_rfl
@[simp] theorem strT9 : strT Tryd.prog 9 = true := by kernel_rfl
@[simp] theorem keyT9 : keyT Tryd.prog 9 = some .string := by kernel_rfl
@[simp] theorem stringT9 : stringT Tryd.prog 9 = true := by kernel_rfl
@[simp] theorem zeroA9 : zeroA Tryd.prog 9 = some (.v (.string ByteArray.empty)) := by kernel_rfl
@[simp] theorem zerosT9 : zerosT Tryd.prog 9 = some [.v (.string ByteArray.empty)] := by kernel_rfl
theorem elT9 : elT Tryd.prog 9 = some (1, 16, [.string ByteArray.empty], .v (.string ByteArray.empty)) := by kernel_rfl
@[simp] theorem undT10 : undT Tryd.prog 10 = true := by kernel_rfl
@[simp] theorem aggT10 : aggT Tryd.prog 10 = false := by kernel_rfl
@[simp] theorem szT10 : szT Tryd.prog 10 = some 1 := by kernel_rfl
@[simp] theorem concT10 : concreteT Tryd.prog 10 = true := by kernel_rfl
@[simp] theorem strT10 : strT Tryd.prog 10 = true := by kernel_rfl
@[simp] theorem keyT10 : keyT Tryd.prog 10 = some .string := by kernel_rfl
@[simp] theorem stringT10 : stringT Tryd.prog 10 = true := by kernel_rfl
@[simp] theorem zeroA10 : zeroA Tryd.prog 10 = some (.v (.string ByteArray.empty)) := by kernel_rfl
@[simp] theorem zerosT10 : zerosT Tryd.prog 10 = some [.v (.string ByteArray.empty)] := by kernel_rfl
theorem elT10 : elT Tryd.prog 10 = some (1, 16, [.string ByteArray.empty], .v (.string ByteArray.empty)) := by kernel_rfl
@[simp] theorem undT11 : undT Tryd.prog 11 = true := by kernel_rfl
@[simp] theorem aggT11 : aggT Tryd.prog 11 = false := by kernel_rfl
@[simp] theorem szT11 : szT Tryd.prog 11 = some 1 := by kernel_rfl
@[simp] theorem concT11 : concreteT Tryd.prog 11 = true := by kernel_rfl
@[simp] theorem strT11 : strT Tryd.prog 11 = true := by kernel_rfl
@[simp] theorem keyT11 : keyT Tryd.prog 11 = some .string := by kernel_rfl
@[simp] theorem stringT11 : stringT Tryd.prog 11 = true := by kernel_rfl
@[simp] theorem zeroA11 : zeroA Tryd.prog 11 = some (.v (.string ByteArray.empty)) := by kernel_rfl
@[simp] theorem zerosT11 : zerosT Tryd.prog 11 = some [.v (.string ByteArray.empty)] := by kernel_rfl
theorem elT11 : elT Tryd.prog 11 = some (1, 16, [.string ByteArray.empty], .v (.string ByteArray.empty)) := by kernel_rfl
@[simp] theorem undT12 : undT Tryd.prog 12 = true := by kernel_rfl
@[simp] theorem aggT12 : aggT Tryd.prog 12 = false := by kernel_rfl
@[simp] theorem szT12 : szT Tryd.prog 12 = some 1 := by kernel_rfl
@[simp] theorem concT12 : concreteT Tryd.prog 12 = true := by kernel_rfl
@[simp] theorem intT12 : intT Tryd.prog 12 = some .u64 := by kernel_rfl
@[simp] theorem keyT12 : keyT Tryd.prog 12 = some (.int .u64) := by kernel_rfl
@[simp] theorem u8T12 : u8T Tryd.prog 12 = false := by kernel_rfl
@[simp] theorem zeroA12 : zeroA Tryd.prog 12 = some (.v (.int .u64 0)) := by kernel_rfl
@[simp] theorem zerosT12 : zerosT Tryd.prog 12 = some [.v (.int .u64 0)] := by kernel_rfl
theorem elT12 : elT Tryd.prog 12 = some (1, 8, [.int .u64 0], .v (.int .u64 0)) := by kernel_rfl
@[simp] theorem undT13 : undT Tryd.prog 13 = true := by kernel_rfl
@[simp] theorem aggT13 : aggT Tryd.prog 13 = true := by kernel_rfl
@[simp] theorem szT13 : szT Tryd.prog 13 = some 2 := by kernel_rfl
@[simp] theorem concT13 : concreteT Tryd.prog 13 = true := by kernel_rfl
@[simp] theorem zeroA13 : zeroA Tryd.prog 13 = some (.agg [.v (.string ByteArray.empty), .v (.int .u64 0)]) := by kernel_rfl
@[simp] theorem zerosT13 : zerosT Tryd.prog 13 = some [.v (.string ByteArray.empty), .v (.int .u64 0)] := by kernel_rfl
theorem elT13 : elT Tryd.prog 13 = some (2, 24, [.string ByteArray.empty, .int .u64 0], .agg [.v (.string ByteArray.empty), .v (.int .u64 0)]) := by kernel_rfl
theorem placesL13 : placesL Tryd.prog 13 = some ([.string ByteArray.empty, .int .u64 0], [(0, 1), (1, 1)]) := by kernel_rfl
@[simp] theorem bld13 (ps : List (Nat × AV)) (S : Subs) : (aBuild Tryd.prog 13 ps).run S = thenR (liveR ps S) fun ps' S => (fillA (([(0, 1), (1, 1)] : List (Nat × Nat))[·]?) [.v (.string ByteArray.empty), .v (.int .u64 0)] ps').map fun r => (.agg r, S) := build_run placesL13 ps S
@[simp] theorem fieldT13_0 : fieldT Tryd.prog 13 0 = some 0 := by kernel_rfl
@[simp] theorem fieldT13_1 : fieldT Tryd.prog 13 1 = some 1 := by kernel_rfl
@[simp] theorem undT14 : undT Tryd.prog 14 = true := by kernel_rfl
@[simp] theorem aggT14 : aggT Tryd.prog 14 = true := by kernel_rfl
@[simp] theorem szT14 : szT Tryd.prog 14 = some 2 := by kernel_rfl
@[simp] theorem concT14 : concreteT Tryd.prog 14 = true := by kernel_rfl
@[simp] theorem zeroA14 : zeroA Tryd.prog 14 = some (.agg [.v (.string ByteArray.empty), .v (.int .u64 0)]) := by kernel_rfl
@[simp] theorem zerosT14 : zerosT Tryd.prog 14 = some [.v (.string ByteArray.empty), .v (.int .u64 0)] := by kernel_rfl
theorem elT14 : elT Tryd.prog 14 = some (2, 24, [.string ByteArray.empty, .int .u64 0], .agg [.v (.string ByteArray.empty), .v (.int .u64 0)]) := by kernel_rfl
theorem placesL14 : placesL Tryd.prog 14 = some ([.string ByteArray.empty, .int .u64 0], [(0, 1), (1, 1)]) := by kernel_rfl
@[simp] theorem bld14 (ps : List (Nat × AV)) (S : Subs) : (aBuild Tryd.prog 14 ps).run S = thenR (liveR ps S) fun ps' S => (fillA (([(0, 1), (1, 1)] : List (Nat × Nat))[·]?) [.v (.string ByteArray.empty), .v (.int .u64 0)] ps').map fun r => (.agg r, S) := build_run placesL14 ps S
@[simp] theorem fieldT14_0 : fieldT Tryd.prog 14 0 = some 0 := by kernel_rfl
@[simp] theorem fieldT14_1 : fieldT Tryd.prog 14 1 = some 1 := by kernel_rfl
@[simp] theorem undT15 : undT Tryd.prog 15 = true := by kernel_rfl
@[simp] theorem aggT15 : aggT Tryd.prog 15 = false := by kernel_rfl
@[simp] theorem szT15 : szT Tryd.prog 15 = some 1 := by kernel_rfl
@[simp] theorem concT15 : concreteT Tryd.prog 15 = true := by kernel_rfl
@[simp] theorem zeroA15 : zeroA Tryd.prog 15 = some (.v (.pointer none)) := by kernel_rfl
@[simp] theorem zerosT15 : zerosT Tryd.prog 15 = some [.v (.pointer none)] := by kernel_rfl
theorem elT15 : elT Tryd.prog 15 = some (1, 8, [.pointer none], .v (.pointer none)) := by kernel_rfl
@[simp] theorem undT16 : undT Tryd.prog 16 = true := by kernel_rfl
@[simp] theorem aggT16 : aggT Tryd.prog 16 = false := by kernel_rfl
@[simp] theorem szT16 : szT Tryd.prog 16 = some 1 := by kernel_rfl
@[simp] theorem concT16 : concreteT Tryd.prog 16 = true := by kernel_rfl
@[simp] theorem zeroA16 : zeroA Tryd.prog 16 = some (.v (.pointer none)) := by kernel_rfl
@[simp] theorem zerosT16 : zerosT Tryd.prog 16 = some [.v (.pointer none)] := by kernel_rfl
theorem elT16 : elT Tryd.prog 16 = some (1, 8, [.pointer none], .v (.pointer none)) := by kernel_rfl
@[simp] theorem undT17 : undT Tryd.prog 17 = true := by kernel_rfl
@[simp] theorem aggT17 : aggT Tryd.prog 17 = false := by kernel_rfl
@[simp] theorem szT17 : szT Tryd.prog 17 = some 1 := by kernel_rfl
@[simp] theorem concT17 : concreteT Tryd.prog 17 = true := by kernel_rfl
@[simp] theorem zeroA17 : zeroA Tryd.prog 17 = some (.v (.pointer none)) := by kernel_rfl
@[simp] theorem zerosT17 : zerosT Tryd.prog 17 = some [.v (.pointer none)] := by kernel_rfl
theorem elT17 : elT Tryd.prog 17 = some (1, 8, [.pointer none], .v (.pointer none)) := by kernel_rfl
@[simp] theorem undT18 : undT Tryd.prog 18 = true := by kernel_rfl
@[simp] theorem aggT18 : aggT Tryd.prog 18 = true := by kernel_rfl
@[simp] theorem szT18 : szT Tryd.prog 18 = some 1 := by kernel_rfl
@[simp] theorem concT18 : concreteT Tryd.prog 18 = true := by kernel_rfl
@[simp] theorem zeroA18 : zeroA Tryd.prog 18 = some (.agg [.v (.pointer none)]) := by kernel_rfl
@[simp] theorem zerosT18 : zerosT Tryd.prog 18 = some [.v (.pointer none)] := by kernel_rfl
theorem elT18 : elT Tryd.prog 18 = some (1, 8, [.pointer none], .agg [.v (.pointer none)]) := by kernel_rfl
theorem placesL18 : placesL Tryd.prog 18 = some ([.pointer none], [(0, 1)]) := by kernel_rfl
@[simp] theorem bld18 (ps : List (Nat × AV)) (S : Subs) : (aBuild Tryd.prog 18 ps).run S = thenR (liveR ps S) fun ps' S => (fillA (([(0, 1)] : List (Nat × Nat))[·]?) [.v (.pointer none)] ps').map fun r => (.agg r, S) := build_run placesL18 ps S
@[simp] theorem fieldT18_0 : fieldT Tryd.prog 18 0 = some 0 := by kernel_rfl
@[simp] theorem undT19 : undT Tryd.prog 19 = true := by kernel_rfl
@[simp] theorem aggT19 : aggT Tryd.prog 19 = true := by kernel_rfl
@[simp] theorem szT19 : szT Tryd.prog 19 = some 1 := by kernel_rfl
@[simp] theorem concT19 : concreteT Tryd.prog 19 = true := by kernel_rfl
@[simp] theorem zeroA19 : zeroA Tryd.prog 19 = some (.agg [.v (.pointer none)]) := by kernel_rfl
@[simp] theorem zerosT19 : zerosT Tryd.prog 19 = some [.v (.pointer none)] := by kernel_rfl
theorem elT19 : elT Tryd.prog 19 = some (1, 8, [.pointer none], .agg [.v (.pointer none)]) := by kernel_rfl
theorem placesL19 : placesL Tryd.prog 19 = some ([.pointer none], [(0, 1)]) := by kernel_rfl
@[simp] theorem bld19 (ps : List (Nat × AV)) (S : Subs) : (aBuild Tryd.prog 19 ps).run S = thenR (liveR ps S) fun ps' S => (fillA (([(0, 1)] : List (Nat × Nat))[·]?) [.v (.pointer none)] ps').map fun r => (.agg r, S) := build_run placesL19 ps S
@[simp] theorem fieldT19_0 : fieldT Tryd.prog 19 0 = some 0 := by kernel_rfl
@[simp] theorem undT20 : undT Tryd.prog 20 = true := by kernel_rfl
@[simp] theorem aggT20 : aggT Tryd.prog 20 = false := by kernel_rfl
@[simp] theorem szT20 : szT Tryd.prog 20 = some 1 := by kernel_rfl
@[simp] theorem concT20 : concreteT Tryd.prog 20 = false := by kernel_rfl
@[simp] theorem ifaceT20 : ifaceT Tryd.prog 20 = true := by kernel_rfl
@[simp] theorem zeroA20 : zeroA Tryd.prog 20 = some (.v (.nilIface)) := by kernel_rfl
@[simp] theorem zerosT20 : zerosT Tryd.prog 20 = some [.v (.nilIface)] := by kernel_rfl
theorem elT20 : elT Tryd.prog 20 = some (1, 16, [.nilIface], .v (.nilIface)) := by kernel_rfl
@[simp] theorem undT21 : undT Tryd.prog 21 = true := by kernel_rfl
@[simp] theorem aggT21 : aggT Tryd.prog 21 = false := by kernel_rfl
@[simp] theorem szT21 : szT Tryd.prog 21 = some 1 := by kernel_rfl
@[simp] theorem concT21 : concreteT Tryd.prog 21 = true := by kernel_rfl
@[simp] theorem intT21 : intT Tryd.prog 21 = some .i32 := by kernel_rfl
@[simp] theorem keyT21 : keyT Tryd.prog 21 = some (.int .i32) := by kernel_rfl
@[simp] theorem u8T21 : u8T Tryd.prog 21 = false := by kernel_rfl
@[simp] theorem zeroA21 : zeroA Tryd.prog 21 = some (.v (.int .i32 0)) := by kernel_rfl
@[simp] theorem zerosT21 : zerosT Tryd.prog 21 = some [.v (.int .i32 0)] := by kernel_rfl
theorem elT21 : elT Tryd.prog 21 = some (1, 4, [.int .i32 0], .v (.int .i32 0)) := by kernel_rfl
@[simp] theorem undT22 : undT Tryd.prog 22 = true := by kernel_rfl
@[simp] theorem aggT22 : aggT Tryd.prog 22 = false := by kernel_rfl
@[simp] theorem szT22 : szT Tryd.prog 22 = some 1 := by kernel_rfl
@[simp] theorem concT22 : concreteT Tryd.prog 22 = true := by kernel_rfl
@[simp] theorem sliceT22 : sliceT Tryd.prog 22 = some 42 := by kernel_rfl
@[simp] theorem zeroA22 : zeroA Tryd.prog 22 = some (.v (.slice none 0 0)) := by kernel_rfl
@[simp] theorem zerosT22 : zerosT Tryd.prog 22 = some [.v (.slice none 0 0)] := by kernel_rfl
theorem elT22 : elT Tryd.prog 22 = some (1, 24, [.slice none 0 0], .v (.slice none 0 0)) := by kernel_rfl
@[simp] theorem undT23 : undT Tryd.prog 23 = true := by kernel_rfl
@[simp] theorem aggT23 : aggT Tryd.prog 23 = false := by kernel_rfl
@[simp] theorem szT23 : szT Tryd.prog 23 = some 1 := by kernel_rfl
@[simp] theorem concT23 : concreteT Tryd.prog 23 = true := by kernel_rfl
@[simp] theorem sliceT23 : sliceT Tryd.prog 23 = some 72 := by kernel_rfl
@[simp] theorem zeroA23 : zeroA Tryd.prog 23 = some (.v (.slice none 0 0)) := by kernel_rfl
@[simp] theorem zerosT23 : zerosT Tryd.prog 23 = some [.v (.slice none 0 0)] := by kernel_rfl
theorem elT23 : elT Tryd.prog 23 = some (1, 24, [.slice none 0 0], .v (.slice none 0 0)) := by kernel_rfl
@[simp] theorem undT24 : undT Tryd.prog 24 = true := by kernel_rfl
@[simp] theorem aggT24 : aggT Tryd.prog 24 = false := by kernel_rfl
@[simp] theorem szT24 : szT Tryd.prog 24 = some 1 := by kernel_rfl
@[simp] theorem concT24 : concreteT Tryd.prog 24 = true := by kernel_rfl
@[simp] theorem intT24 : intT Tryd.prog 24 = some .u32 := by kernel_rfl
@[simp] theorem keyT24 : keyT Tryd.prog 24 = some (.int .u32) := by kernel_rfl
@[simp] theorem u8T24 : u8T Tryd.prog 24 = false := by kernel_rfl
@[simp] theorem zeroA24 : zeroA Tryd.prog 24 = some (.v (.int .u32 0)) := by kernel_rfl
@[simp] theorem zerosT24 : zerosT Tryd.prog 24 = some [.v (.int .u32 0)] := by kernel_rfl
theorem elT24 : elT Tryd.prog 24 = some (1, 4, [.int .u32 0], .v (.int .u32 0)) := by kernel_rfl
@[simp] theorem undT25 : undT Tryd.prog 25 = true := by kernel_rfl
@[simp] theorem aggT25 : aggT Tryd.prog 25 = false := by kernel_rfl
@[simp] theorem szT25 : szT Tryd.prog 25 = some 1 := by kernel_rfl
@[simp] theorem concT25 : concreteT Tryd.prog 25 = true := by kernel_rfl
@[simp] theorem zeroA25 : zeroA Tryd.prog 25 = some (.v (.nilFunc)) := by kernel_rfl
@[simp] theorem zerosT25 : zerosT Tryd.prog 25 = some [.v (.nilFunc)] := by kernel_rfl
theorem elT25 : elT Tryd.prog 25 = some (1, 8, [.nilFunc], .v (.nilFunc)) := by kernel_rfl
@[simp] theorem undT26 : undT Tryd.prog 26 = true := by kernel_rfl
@[simp] theorem aggT26 : aggT Tryd.prog 26 = false := by kernel_rfl
@[simp] theorem szT26 : szT Tryd.prog 26 = some 1 := by kernel_rfl
@[simp] theorem concT26 : concreteT Tryd.prog 26 = true := by kernel_rfl
@[simp] theorem zeroA26 : zeroA Tryd.prog 26 = some (.v (.nilFunc)) := by kernel_rfl
@[simp] theorem zerosT26 : zerosT Tryd.prog 26 = some [.v (.nilFunc)] := by kernel_rfl
theorem elT26 : elT Tryd.prog 26 = some (1, 8, [.nilFunc], .v (.nilFunc)) := by kernel_rfl
@[simp] theorem undT27 : undT Tryd.prog 27 = true := by kernel_rfl
@[simp] theorem aggT27 : aggT Tryd.prog 27 = false := by kernel_rfl
@[simp] theorem szT27 : szT Tryd.prog 27 = some 1 := by kernel_rfl
@[simp] theorem concT27 : concreteT Tryd.prog 27 = true := by kernel_rfl
@[simp] theorem sliceT27 : sliceT Tryd.prog 27 = some 3 := by kernel_rfl
@[simp] theorem zeroA27 : zeroA Tryd.prog 27 = some (.v (.slice none 0 0)) := by kernel_rfl
@[simp] theorem zerosT27 : zerosT Tryd.prog 27 = some [.v (.slice none 0 0)] := by kernel_rfl
theorem elT27 : elT Tryd.prog 27 = some (1, 24, [.slice none 0 0], .v (.slice none 0 0)) := by kernel_rfl
@[simp] theorem undT28 : undT Tryd.prog 28 = true := by kernel_rfl
@[simp] theorem aggT28 : aggT Tryd.prog 28 = false := by kernel_rfl
@[simp] theorem szT28 : szT Tryd.prog 28 = some 1 := by kernel_rfl
@[simp] theorem concT28 : concreteT Tryd.prog 28 = true := by kernel_rfl
@[simp] theorem sliceT28 : sliceT Tryd.prog 28 = some 24 := by kernel_rfl
@[simp] theorem zeroA28 : zeroA Tryd.prog 28 = some (.v (.slice none 0 0)) := by kernel_rfl
@[simp] theorem zerosT28 : zerosT Tryd.prog 28 = some [.v (.slice none 0 0)] := by kernel_rfl
theorem elT28 : elT Tryd.prog 28 = some (1, 24, [.slice none 0 0], .v (.slice none 0 0)) := by kernel_rfl
@[simp] theorem undT29 : undT Tryd.prog 29 = true := by kernel_rfl
@[simp] theorem aggT29 : aggT Tryd.prog 29 = false := by kernel_rfl
@[simp] theorem szT29 : szT Tryd.prog 29 = some 1 := by kernel_rfl
@[simp] theorem concT29 : concreteT Tryd.prog 29 = true := by kernel_rfl
@[simp] theorem sliceT29 : sliceT Tryd.prog 29 = some 74 := by kernel_rfl
@[simp] theorem zeroA29 : zeroA Tryd.prog 29 = some (.v (.slice none 0 0)) := by kernel_rfl
@[simp] theorem zerosT29 : zerosT Tryd.prog 29 = some [.v (.slice none 0 0)] := by kernel_rfl
theorem elT29 : elT Tryd.prog 29 = some (1, 24, [.slice none 0 0], .v (.slice none 0 0)) := by kernel_rfl
@[simp] theorem undT30 : undT Tryd.prog 30 = true := by kernel_rfl
@[simp] theorem aggT30 : aggT Tryd.prog 30 = true := by kernel_rfl
@[simp] theorem szT30 : szT Tryd.prog 30 = some 4 := by kernel_rfl
@[simp] theorem concT30 : concreteT Tryd.prog 30 = true := by kernel_rfl
@[simp] theorem zeroA30 : zeroA Tryd.prog 30 = some (.agg [.v (.slice none 0 0), .v (.slice none 0 0), .v (.slice none 0 0), .v (.int .i64 0)]) := by kernel_rfl
@[simp] theorem zerosT30 : zerosT Tryd.prog 30 = some [.v (.slice none 0 0), .v (.slice none 0 0), .v (.slice none 0 0), .v (.int .i64 0)] := by kernel_rfl
theorem elT30 : elT Tryd.prog 30 = some (4, 80, [.slice none 0 0, .slice none 0 0, .slice none 0 0, .int .i64 0], .agg [.v (.slice none 0 0), .v (.slice none 0 0), .v (.slice none 0 0), .v (.int .i64 0)]) := by kernel_rfl
theorem placesL30 : placesL Tryd.prog 30 = some ([.slice none 0 0, .slice none 0 0, .slice none 0 0, .int .i64 0], [(0, 1), (1, 1), (2, 1), (3, 1)]) := by kernel_rfl
@[simp] theorem bld30 (ps : List (Nat × AV)) (S : Subs) : (aBuild Tryd.prog 30 ps).run S = thenR (liveR ps S) fun ps' S => (fillA (([(0, 1), (1, 1), (2, 1), (3, 1)] : List (Nat × Nat))[·]?) [.v (.slice none 0 0), .v (.slice none 0 0), .v (.slice none 0 0), .v (.int .i64 0)] ps').map fun r => (.agg r, S) := build_run placesL30 ps S
@[simp] theorem fieldT30_0 : fieldT Tryd.prog 30 0 = some 0 := by kernel_rfl
@[simp] theorem fieldT30_1 : fieldT Tryd.prog 30 1 = some 1 := by kernel_rfl
@[simp] theorem fieldT30_2 : fieldT Tryd.prog 30 2 = some 2 := by kernel_rfl
@[simp] theorem fieldT30_3 : fieldT Tryd.prog 30 3 = some 3 := by kernel_rfl
@[simp] theorem undT31 : undT Tryd.prog 31 = true := by kernel_rfl
@[simp] theorem aggT31 : aggT Tryd.prog 31 = true := by kernel_rfl
@[simp] theorem szT31 : szT Tryd.prog 31 = some 4 := by kernel_rfl
@[simp] theorem concT31 : concreteT Tryd.prog 31 = true := by kernel_rfl
@[simp] theorem zeroA31 : zeroA Tryd.prog 31 = some (.agg [.v (.slice none 0 0), .v (.slice none 0 0), .v (.slice none 0 0), .v (.int .i64 0)]) := by kernel_rfl
@[simp] theorem zerosT31 : zerosT Tryd.prog 31 = some [.v (.slice none 0 0), .v (.slice none 0 0), .v (.slice none 0 0), .v (.int .i64 0)] := by kernel_rfl
theorem elT31 : elT Tryd.prog 31 = some (4, 80, [.slice none 0 0, .slice none 0 0, .slice none 0 0, .int .i64 0], .agg [.v (.slice none 0 0), .v (.slice none 0 0), .v (.slice none 0 0), .v (.int .i64 0)]) := by kernel_rfl
theorem placesL31 : placesL Tryd.prog 31 = some ([.slice none 0 0, .slice none 0 0, .slice none 0 0, .int .i64 0], [(0, 1), (1, 1), (2, 1), (3, 1)]) := by kernel_rfl
@[simp] theorem bld31 (ps : List (Nat × AV)) (S : Subs) : (aBuild Tryd.prog 31 ps).run S = thenR (liveR ps S) fun ps' S => (fillA (([(0, 1), (1, 1), (2, 1), (3, 1)] : List (Nat × Nat))[·]?) [.v (.slice none 0 0), .v (.slice none 0 0), .v (.slice none 0 0), .v (.int .i64 0)] ps').map fun r => (.agg r, S) := build_run placesL31 ps S
@[simp] theorem fieldT31_0 : fieldT Tryd.prog 31 0 = some 0 := by kernel_rfl
@[simp] theorem fieldT31_1 : fieldT Tryd.prog 31 1 = some 1 := by kernel_rfl
@[simp] theorem fieldT31_2 : fieldT Tryd.prog 31 2 = some 2 := by kernel_rfl
@[simp] theorem fieldT31_3 : fieldT Tryd.prog 31 3 = some 3 := by kernel_rfl
@[simp] theorem undT32 : undT Tryd.prog 32 = true := by kernel_rfl
@[simp] theorem aggT32 : aggT Tryd.prog 32 = false := by kernel_rfl
@[simp] theorem szT32 : szT Tryd.prog 32 = some 1 := by kernel_rfl
@[simp] theorem concT32 : concreteT Tryd.prog 32 = false := by kernel_rfl
@[simp] theorem ifaceT32 : ifaceT Tryd.prog 32 = true := by kernel_rfl
@[simp] theorem zeroA32 : zeroA Tryd.prog 32 = some (.v (.nilIface)) := by kernel_rfl
@[simp] theorem zerosT32 : zerosT Tryd.prog 32 = some [.v (.nilIface)] := by kernel_rfl
theorem elT32 : elT Tryd.prog 32 = some (1, 16, [.nilIface], .v (.nilIface)) := by kernel_rfl
@[simp] theorem undT33 : undT Tryd.prog 33 = true := by kernel_rfl
@[simp] theorem aggT33 : aggT Tryd.prog 33 = false := by kernel_rfl
@[simp] theorem szT33 : szT Tryd.prog 33 = some 1 := by kernel_rfl
@[simp] theorem concT33 : concreteT Tryd.prog 33 = false := by kernel_rfl
@[simp] theorem ifaceT33 : ifaceT Tryd.prog 33 = true := by kernel_rfl
@[simp] theorem zeroA33 : zeroA Tryd.prog 33 = some (.v (.nilIface)) := by kernel_rfl
@[simp] theorem zerosT33 : zerosT Tryd.prog 33 = some [.v (.nilIface)] := by kernel_rfl
theorem elT33 : elT Tryd.prog 33 = some (1, 16, [.nilIface], .v (.nilIface)) := by kernel_rfl
@[simp] theorem undT35 : undT Tryd.prog 35 = true := by kernel_rfl
@[simp] theorem aggT35 : aggT Tryd.prog 35 = false := by kernel_rfl
@[simp] theorem szT35 : szT Tryd.prog 35 = some 1 := by kernel_rfl
@[simp] theorem concT35 : concreteT Tryd.prog 35 = true := by kernel_rfl
@[simp] theorem zeroA35 : zeroA Tryd.prog 35 = some (.v (.nilFunc)) := by kernel_rfl
@[simp] theorem zerosT35 : zerosT Tryd.prog 35 = some [.v (.nilFunc)] := by kernel_rfl
theorem elT35 : elT Tryd.prog 35 = some (1, 8, [.nilFunc], .v (.nilFunc)) := by kernel_rfl
@[simp] theorem undT36 : undT Tryd.prog 36 = true := by kernel_rfl
@[simp] theorem aggT36 : aggT Tryd.prog 36 = false := by kernel_rfl
@[simp] theorem szT36 : szT Tryd.prog 36 = some 1 := by kernel_rfl
@[simp] theorem concT36 : concreteT Tryd.prog 36 = true := by kernel_rfl
@[simp] theorem zeroA36 : zeroA Tryd.prog 36 = some (.v (.nilFunc)) := by kernel_rfl
@[simp] theorem zerosT36 : zerosT Tryd.prog 36 = some [.v (.nilFunc)] := by kernel_rfl
theorem elT36 : elT Tryd.prog 36 = some (1, 8, [.nilFunc], .v (.nilFunc)) := by kernel_rfl
@[simp] theorem undT37 : undT Tryd.prog 37 = true := by kernel_rfl
@[simp] theorem aggT37 : aggT Tryd.prog 37 = false := by kernel_rfl
@[simp] theorem szT37 : szT Tryd.prog 37 = some 1 := by kernel_rfl
@[simp] theorem concT37 : concreteT Tryd.prog 37 = true := by kernel_rfl
@[simp] theorem zeroA37 : zeroA Tryd.prog 37 = some (.v (.nilFunc)) := by kernel_rfl
@[simp] theorem zerosT37 : zerosT Tryd.prog 37 = some [.v (.nilFunc)] := by kernel_rfl
theorem elT37 : elT Tryd.prog 37 = some (1, 8, [.nilFunc], .v (.nilFunc)) := by kernel_rfl
@[simp] theorem undT38 : undT Tryd.prog 38 = true := by kernel_rfl
@[simp] theorem aggT38 : aggT Tryd.prog 38 = true := by kernel_rfl
@[simp] theorem szT38 : szT Tryd.prog 38 = some 5 := by kernel_rfl
@[simp] theorem concT38 : concreteT Tryd.prog 38 = true := by kernel_rfl
@[simp] theorem zeroA38 : zeroA Tryd.prog 38 = some (.agg [.v (.int .i64 0), .v (.int .i64 0), .v (.int .i64 0), .v (.int .i64 0), .v (.int .i32 0)]) := by kernel_rfl
@[simp] theorem zerosT38 : zerosT Tryd.prog 38 = some [.v (.int .i64 0), .v (.int .i64 0), .v (.int .i64 0), .v (.int .i64 0), .v (.int .i32 0)] := by kernel_rfl
theorem elT38 : elT Tryd.prog 38 = some (5, 40, [.int .i64 0, .int .i64 0, .int .i64 0, .int .i64 0, .int .i32 0], .agg [.v (.int .i64 0), .v (.int .i64 0), .v (.int .i64 0), .v (.int .i64 0), .v (.int .i32 0)]) := by kernel_rfl
theorem placesL38 : placesL Tryd.prog 38 = some ([.int .i64 0, .int .i64 0, .int .i64 0, .int .i64 0, .int .i32 0], [(0, 1), (1, 1), (2, 1), (3, 1), (4, 1)]) := by kernel_rfl
@[simp] theorem bld38 (ps : List (Nat × AV)) (S : Subs) : (aBuild Tryd.prog 38 ps).run S = thenR (liveR ps S) fun ps' S => (fillA (([(0, 1), (1, 1), (2, 1), (3, 1), (4, 1)] : List (Nat × Nat))[·]?) [.v (.int .i64 0), .v (.int .i64 0), .v (.int .i64 0), .v (.int .i64 0), .v (.int .i32 0)] ps').map fun r => (.agg r, S) := build_run placesL38 ps S
@[simp] theorem fieldT38_0 : fieldT Tryd.prog 38 0 = some 0 := by kernel_rfl
@[simp] theorem fieldT38_1 : fieldT Tryd.prog 38 1 = some 1 := by kernel_rfl
@[simp] theorem fieldT38_2 : fieldT Tryd.prog 38 2 = some 2 := by kernel_rfl
@[simp] theorem fieldT38_3 : fieldT Tryd.prog 38 3 = some 3 := by kernel_rfl
@[simp] theorem fieldT38_4 : fieldT Tryd.prog 38 4 = some 4 := by kernel_rfl
@[simp] theorem undT39 : undT Tryd.prog 39 = true := by kernel_rfl
@[simp] theorem aggT39 : aggT Tryd.prog 39 = true := by kernel_rfl
@[simp] theorem szT39 : szT Tryd.prog 39 = some 5 := by kernel_rfl
@[simp] theorem concT39 : concreteT Tryd.prog 39 = true := by kernel_rfl
@[simp] theorem zeroA39 : zeroA Tryd.prog 39 = some (.agg [.v (.int .i64 0), .v (.int .i64 0), .v (.int .i64 0), .v (.int .i64 0), .v (.int .i32 0)]) := by kernel_rfl
@[simp] theorem zerosT39 : zerosT Tryd.prog 39 = some [.v (.int .i64 0), .v (.int .i64 0), .v (.int .i64 0), .v (.int .i64 0), .v (.int .i32 0)] := by kernel_rfl
theorem elT39 : elT Tryd.prog 39 = some (5, 40, [.int .i64 0, .int .i64 0, .int .i64 0, .int .i64 0, .int .i32 0], .agg [.v (.int .i64 0), .v (.int .i64 0), .v (.int .i64 0), .v (.int .i64 0), .v (.int .i32 0)]) := by kernel_rfl
theorem placesL39 : placesL Tryd.prog 39 = some ([.int .i64 0, .int .i64 0, .int .i64 0, .int .i64 0, .int .i32 0], [(0, 1), (1, 1), (2, 1), (3, 1), (4, 1)]) := by kernel_rfl
@[simp] theorem bld39 (ps : List (Nat × AV)) (S : Subs) : (aBuild Tryd.prog 39 ps).run S = thenR (liveR ps S) fun ps' S => (fillA (([(0, 1), (1, 1), (2, 1), (3, 1), (4, 1)] : List (Nat × Nat))[·]?) [.v (.int .i64 0), .v (.int .i64 0), .v (.int .i64 0), .v (.int .i64 0), .v (.int .i32 0)] ps').map fun r => (.agg r, S) := build_run placesL39 ps S
@[simp] theorem fieldT39_0 : fieldT Tryd.prog 39 0 = some 0 := by kernel_rfl
@[simp] theorem fieldT39_1 : fieldT Tryd.prog 39 1 = some 1 := by kernel_rfl
@[simp] theorem fieldT39_2 : fieldT Tryd.prog 39 2 = some 2 := by kernel_rfl
@[simp] theorem fieldT39_3 : fieldT Tryd.prog 39 3 = some 3 := by kernel_rfl
@[simp] theorem fieldT39_4 : fieldT Tryd.prog 39 4 = some 4 := by kernel_rfl
@[simp] theorem undT40 : undT Tryd.prog 40 = true := by kernel_rfl
@[simp] theorem aggT40 : aggT Tryd.prog 40 = false := by kernel_rfl
@[simp] theorem szT40 : szT Tryd.prog 40 = some 1 := by kernel_rfl
@[simp] theorem concT40 : concreteT Tryd.prog 40 = true := by kernel_rfl
@[simp] theorem sliceT40 : sliceT Tryd.prog 40 = some 193 := by kernel_rfl
@[simp] theorem zeroA40 : zeroA Tryd.prog 40 = some (.v (.slice none 0 0)) := by kernel_rfl
@[simp] theorem zerosT40 : zerosT Tryd.prog 40 = some [.v (.slice none 0 0)] := by kernel_rfl
theorem elT40 : elT Tryd.prog 40 = some (1, 24, [.slice none 0 0], .v (.slice none 0 0)) := by kernel_rfl
@[simp] theorem undT41 : undT Tryd.prog 41 = true := by kernel_rfl
@[simp] theorem aggT41 : aggT Tryd.prog 41 = true := by kernel_rfl
@[simp] theorem szT41 : szT Tryd.prog 41 = some 15 := by kernel_rfl
@[simp] theorem concT41 : concreteT Tryd.prog 41 = true := by kernel_rfl
@[simp] theorem zeroA41 : zeroA Tryd.prog 41 = some (.agg [.v (.int .i64 0), .v (.int .i64 0), .v (.int .i64 0), .v (.string ByteArray.empty), .v (.int .i64 0), .v (.int .i64 0), .v (.int .i64 0), .v (.int .i64 0), .v (.int .i32 0), .v (.string ByteArray.empty), .v (.int .i64 0), .v (.slice none 0 0), .v (.int .u32 0), .v (.bool false), .v (.bool false)]) := by kernel_rfl
@[simp] theorem zerosT41 : zerosT Tryd.prog 41 = some [.v (.int .i64 0), .v (.int .i64 0), .v (.int .i64 0), .v (.string ByteArray.empty), .v (.int .i64 0), .v (.int .i64 0), .v (.int .i64 0), .v (.int .i64 0), .v (.int .i32 0), .v (.string ByteArray.empty), .v (.int .i64 0), .v (.slice none 0 0), .v (.int .u32 0), .v (.bool false), .v (.bool false)] := by kernel_rfl
theorem elT41 : elT Tryd.prog 41 = some (15, 136, [.int .i64 0, .int .i64 0, .int .i64 0, .string ByteArray.empty, .int .i64 0, .int .i64 0, .int .i64 0, .int .i64 0, .int .i32 0, .string ByteArray.empty, .int .i64 0, .slice none 0 0, .int .u32 0, .bool false, .bool false], .agg [.v (.int .i64 0), .v (.int .i64 0), .v (.int .i64 0), .v (.string ByteArray.empty), .v (.int .i64 0), .v (.int .i64 0), .v (.int .i64 0), .v (.int .i64 0), .v (.int .i32 0), .v (.string ByteArray.empty), .v (.int .i64 0), .v (.slice none 0 0), .v (.int .u32 0), .v (.bool false), .v (.bool false)]) := by kernel_rfl
theorem placesL41 : placesL Tryd.prog 41 = some ([.int .i64 0, .int .i64 0, .int .i64 0, .string ByteArray.empty, .int .i64 0, .int .i64 0, .int .i64 0, .int .i64 0, .int .i32 0, .string ByteArray.empty, .int .i64 0, .slice none 0 0, .int .u32 0, .bool false, .bool false], [(0, 1), (1, 1), (2, 1), (3, 1), (4, 5), (9, 1), (10, 1), (11, 1), (12, 1), (13, 1), (14, 1)]) := by kernel_rfl
@[simp] theorem bld41 (ps : List (Nat × AV)) (S : Subs) : (aBuild Tryd.prog 41 ps).run S = thenR (liveR ps S) fun ps' S => (fillA (([(0, 1), (1, 1), (2, 1), (3, 1), (4, 5), (9, 1), (10, 1), (11, 1), (12, 1), (13, 1), (14, 1)] : List (Nat × Nat))[·]?) [.v (.int .i64 0), .v (.int .i64 0), .v (.int .i64 0), .v (.string ByteArray.empty), .v (.int .i64 0), .v (.int .i64 0), .v (.int .i64 0), .v (.int .i64 0), .v (.int .i32 0), .v (.string ByteArray.empty), .v (.int .i64 0), .v (.slice none 0 0), .v (.int .u32 0), .v (.bool false), .v (.bool false)] ps').map fun r => (.agg r, S) := build_run placesL41 ps S
@[simp] theorem fieldT41_0 : fieldT Tryd.prog 41 0 = some 0 := by kernel_rfl
@[simp] theorem fieldT41_1 : fieldT Tryd.prog 41 1 = some 1 := by kernel_rfl
@[simp] theorem fieldT41_2 : fieldT Tryd.prog 41 2 = some 2 := by kernel_rfl
@[simp] theorem fieldT41_3 : fieldT Tryd.prog 41 3 = some 3 := by kernel_rfl
@[simp] theorem fieldT41_4 : fieldT Tryd.prog 41 4 = some 4 := by kernel_rfl
@[simp] theorem fieldT41_5 : fieldT Tryd.prog 41 5 = some 9 := by kernel_rfl
@[simp] theorem fieldT41_6 : fieldT Tryd.prog 41 6 = some 10 := by kernel_rfl
@[simp] theorem fieldT41_7 : fieldT Tryd.prog 41 7 = some 11 := by kernel_rfl
@[simp] theorem fieldT41_8 : fieldT Tryd.prog 41 8 = some 12 := by kernel_rfl
@[simp] theorem fieldT41_9 : fieldT Tryd.prog 41 9 = some 13 := by kernel_rfl
@[simp] theorem fieldT41_10 : fieldT Tryd.prog 41 10 = some 14 := by kernel_rfl
@[simp] theorem undT42 : undT Tryd.prog 42 = true := by kernel_rfl
@[simp] theorem aggT42 : aggT Tryd.prog 42 = true := by kernel_rfl
@[simp] theorem szT42 : szT Tryd.prog 42 = some 15 := by kernel_rfl
@[simp] theorem concT42 : concreteT Tryd.prog 42 = true := by kernel_rfl
@[simp] theorem zeroA42 : zeroA Tryd.prog 42 = some (.agg [.v (.int .i64 0), .v (.int .i64 0), .v (.int .i64 0), .v (.string ByteArray.empty), .v (.int .i64 0), .v (.int .i64 0), .v (.int .i64 0), .v (.int .i64 0), .v (.int .i32 0), .v (.string ByteArray.empty), .v (.int .i64 0), .v (.slice none 0 0), .v (.int .u32 0), .v (.bool false), .v (.bool false)]) := by kernel_rfl
@[simp] theorem zerosT42 : zerosT Tryd.prog 42 = some [.v (.int .i64 0), .v (.int .i64 0), .v (.int .i64 0), .v (.string ByteArray.empty), .v (.int .i64 0), .v (.int .i64 0), .v (.int .i64 0), .v (.int .i64 0), .v (.int .i32 0), .v (.string ByteArray.empty), .v (.int .i64 0), .v (.slice none 0 0), .v (.int .u32 0), .v (.bool false), .v (.bool false)] := by kernel_rfl
theorem elT42 : elT Tryd.prog 42 = some (15, 136, [.int .i64 0, .int .i64 0, .int .i64 0, .string ByteArray.empty, .int .i64 0, .int .i64 0, .int .i64 0, .int .i64 0, .int .i32 0, .string ByteArray.empty, .int .i64 0, .slice none 0 0, .int .u32 0, .bool false, .bool false], .agg [.v (.int .i64 0), .v (.int .i64 0), .v (.int .i64 0), .v (.string ByteArray.empty), .v (.int .i64 0), .v (.int .i64 0), .v (.int .i64 0), .v (.int .i64 0), .v (.int .i32 0), .v (.string ByteArray.empty), .v (.int .i64 0), .v (.slice none 0 0), .v (.int .u32 0), .v (.bool false), .v (.bool false)]) := by kernel_rfl
theorem placesL42 : placesL Tryd.prog 42 = some ([.int .i64 0, .int .i64 0, .int .i64 0, .string ByteArray.empty, .int .i64 0, .int .i64 0, .int .i64 0, .int .i64 0, .int .i32 0, .string ByteArray.empty, .int .i64 0, .slice none 0 0, .int .u32 0, .bool false, .bool false], [(0, 1), (1, 1), (2, 1), (3, 1), (4, 5), (9, 1), (10, 1), (11, 1), (12, 1), (13, 1), (14, 1)]) := by kernel_rfl
@[simp] theorem bld42 (ps : List (Nat × AV)) (S : Subs) : (aBuild Tryd.prog 42 ps).run S = thenR (liveR ps S) fun ps' S => (fillA (([(0, 1), (1, 1), (2, 1), (3, 1), (4, 5), (9, 1), (10, 1), (11, 1), (12, 1), (13, 1), (14, 1)] : List (Nat × Nat))[·]?) [.v (.int .i64 0), .v (.int .i64 0), .v (.int .i64 0), .v (.string ByteArray.empty), .v (.int .i64 0), .v (.int .i64 0), .v (.int .i64 0), .v (.int .i64 0), .v (.int .i32 0), .v (.string ByteArray.empty), .v (.int .i64 0), .v (.slice none 0 0), .v (.int .u32 0), .v (.bool false), .v (.bool false)] ps').map fun r => (.agg r, S) := build_run placesL42 ps S
@[simp] theorem fieldT42_0 : fieldT Tryd.prog 42 0 = some 0 := by kernel_rfl
@[simp] theorem fieldT42_1 : fieldT Tryd.prog 42 1 = some 1 := by kernel_rfl
@[simp] theorem fieldT42_2 : fieldT Tryd.prog 42 2 = some 2 := by kernel_rfl
@[simp] theorem fieldT42_3 : fieldT Tryd.prog 42 3 = some 3 := by kernel_rfl
@[simp] theorem fieldT42_4 : fieldT Tryd.prog 42 4 = some 4 := by kernel_rfl
@[simp] theorem fieldT42_5 : fieldT Tryd.prog 42 5 = some 9 := by kernel_rfl
@[simp] theorem fieldT42_6 : fieldT Tryd.prog 42 6 = some 10 := by kernel_rfl
@[simp] theorem fieldT42_7 : fieldT Tryd.prog 42 7 = some 11 := by kernel_rfl
@[simp] theorem fieldT42_8 : fieldT Tryd.prog 42 8 = some 12 := by kernel_rfl
@[simp] theorem fieldT42_9 : fieldT Tryd.prog 42 9 = some 13 := by kernel_rfl
@[simp] theorem fieldT42_10 : fieldT Tryd.prog 42 10 = some 14 := by kernel_rfl
@[simp] theorem undT43 : undT Tryd.prog 43 = true := by kernel_rfl
@[simp] theorem aggT43 : aggT Tryd.prog 43 = false := by kernel_rfl
@[simp] theorem szT43 : szT Tryd.prog 43 = some 1 := by kernel_rfl
@[simp] theorem concT43 : concreteT Tryd.prog 43 = true := by kernel_rfl
@[simp] theorem zeroA43 : zeroA Tryd.prog 43 = some (.v (.nilFunc)) := by kernel_rfl
@[simp] theorem zerosT43 : zerosT Tryd.prog 43 = some [.v (.nilFunc)] := by kernel_rfl
theorem elT43 : elT Tryd.prog 43 = some (1, 8, [.nilFunc], .v (.nilFunc)) := by kernel_rfl
@[simp] theorem undT44 : undT Tryd.prog 44 = true := by kernel_rfl
@[simp] theorem aggT44 : aggT Tryd.prog 44 = false := by kernel_rfl
@[simp] theorem szT44 : szT Tryd.prog 44 = some 1 := by kernel_rfl
@[simp] theorem concT44 : concreteT Tryd.prog 44 = true := by kernel_rfl
@[simp] theorem zeroA44 : zeroA Tryd.prog 44 = some (.v (.nilFunc)) := by kernel_rfl
@[simp] theorem zerosT44 : zerosT Tryd.prog 44 = some [.v (.nilFunc)] := by kernel_rfl
theorem elT44 : elT Tryd.prog 44 = some (1, 8, [.nilFunc], .v (.nilFunc)) := by kernel_rfl
@[simp] theorem undT45 : undT Tryd.prog 45 = true := by kernel_rfl
@[simp] theorem aggT45 : aggT Tryd.prog 45 = false := by kernel_rfl
@[simp] theorem szT45 : szT Tryd.prog 45 = some 1 := by kernel_rfl
@[simp] theorem concT45 : concreteT Tryd.prog 45 = true := by kernel_rfl
@[simp] theorem zeroA45 : zeroA Tryd.prog 45 = some (.v (.nilFunc)) := by kernel_rfl
@[simp] theorem zerosT45 : zerosT Tryd.prog 45 = some [.v (.nilFunc)] := by kernel_rfl
theorem elT45 : elT Tryd.prog 45 = some (1, 8, [.nilFunc], .v (.nilFunc)) := by kernel_rfl
@[simp] theorem undT46 : undT Tryd.prog 46 = true := by kernel_rfl
@[simp] theorem aggT46 : aggT Tryd.prog 46 = false := by kernel_rfl
@[simp] theorem szT46 : szT Tryd.prog 46 = some 1 := by kernel_rfl
@[simp] theorem concT46 : concreteT Tryd.prog 46 = true := by kernel_rfl
@[simp] theorem zeroA46 : zeroA Tryd.prog 46 = some (.v (.nilFunc)) := by kernel_rfl
@[simp] theorem zerosT46 : zerosT Tryd.prog 46 = some [.v (.nilFunc)] := by kernel_rfl
theorem elT46 : elT Tryd.prog 46 = some (1, 8, [.nilFunc], .v (.nilFunc)) := by kernel_rfl
@[simp] theorem undT47 : undT Tryd.prog 47 = true := by kernel_rfl
@[simp] theorem aggT47 : aggT Tryd.prog 47 = false := by kernel_rfl
@[simp] theorem szT47 : szT Tryd.prog 47 = some 1 := by kernel_rfl
@[simp] theorem concT47 : concreteT Tryd.prog 47 = true := by kernel_rfl
@[simp] theorem zeroA47 : zeroA Tryd.prog 47 = some (.v (.nilFunc)) := by kernel_rfl
@[simp] theorem zerosT47 : zerosT Tryd.prog 47 = some [.v (.nilFunc)] := by kernel_rfl
theorem elT47 : elT Tryd.prog 47 = some (1, 8, [.nilFunc], .v (.nilFunc)) := by kernel_rfl
@[simp] theorem undT48 : undT Tryd.prog 48 = true := by kernel_rfl
@[simp] theorem aggT48 : aggT Tryd.prog 48 = false := by kernel_rfl
@[simp] theorem szT48 : szT Tryd.prog 48 = some 1 := by kernel_rfl
@[simp] theorem concT48 : concreteT Tryd.prog 48 = true := by kernel_rfl
@[simp] theorem zeroA48 : zeroA Tryd.prog 48 = some (.v (.nilFunc)) := by kernel_rfl
@[simp] theorem zerosT48 : zerosT Tryd.prog 48 = some [.v (.nilFunc)] := by kernel_rfl
theorem elT48 : elT Tryd.prog 48 = some (1, 8, [.nilFunc], .v (.nilFunc)) := by kernel_rfl
@[simp] theorem undT49 : undT Tryd.prog 49 = true := by kernel_rfl
@[simp] theorem aggT49 : aggT Tryd.prog 49 = true := by kernel_rfl
@[simp] theorem szT49 : szT Tryd.prog 49 = some 4 := by kernel_rfl
@[simp] theorem concT49 : concreteT Tryd.prog 49 = true := by kernel_rfl
@[simp] theorem zeroA49 : zeroA Tryd.prog 49 = some (.agg [.v (.slice none 0 0), .v (.slice none 0 0), .v (.slice none 0 0), .v (.int .i64 0)]) := by kernel_rfl
@[simp] theorem zerosT49 : zerosT Tryd.prog 49 = some [.v (.slice none 0 0), .v (.slice none 0 0), .v (.slice none 0 0), .v (.int .i64 0)] := by kernel_rfl
theorem elT49 : elT Tryd.prog 49 = some (4, 80, [.slice none 0 0, .slice none 0 0, .slice none 0 0, .int .i64 0], .agg [.v (.slice none 0 0), .v (.slice none 0 0), .v (.slice none 0 0), .v (.int .i64 0)]) := by kernel_rfl
theorem placesL49 : placesL Tryd.prog 49 = some ([.slice none 0 0, .slice none 0 0, .slice none 0 0, .int .i64 0], [(0, 1), (1, 1), (2, 1), (3, 1)]) := by kernel_rfl
@[simp] theorem bld49 (ps : List (Nat × AV)) (S : Subs) : (aBuild Tryd.prog 49 ps).run S = thenR (liveR ps S) fun ps' S => (fillA (([(0, 1), (1, 1), (2, 1), (3, 1)] : List (Nat × Nat))[·]?) [.v (.slice none 0 0), .v (.slice none 0 0), .v (.slice none 0 0), .v (.int .i64 0)] ps').map fun r => (.agg r, S) := build_run placesL49 ps S
@[simp] theorem fieldT49_0 : fieldT Tryd.prog 49 0 = some 0 := by kernel_rfl
@[simp] theorem fieldT49_1 : fieldT Tryd.prog 49 1 = some 1 := by kernel_rfl
@[simp] theorem fieldT49_2 : fieldT Tryd.prog 49 2 = some 2 := by kernel_rfl
@[simp] theorem fieldT49_3 : fieldT Tryd.prog 49 3 = some 3 := by kernel_rfl
@[simp] theorem undT50 : undT Tryd.prog 50 = true := by kernel_rfl
@[simp] theorem aggT50 : aggT Tryd.prog 50 = true := by kernel_rfl
@[simp] theorem szT50 : szT Tryd.prog 50 = some 4 := by kernel_rfl
@[simp] theorem concT50 : concreteT Tryd.prog 50 = true := by kernel_rfl
@[simp] theorem zeroA50 : zeroA Tryd.prog 50 = some (.agg [.v (.slice none 0 0), .v (.slice none 0 0), .v (.slice none 0 0), .v (.int .i64 0)]) := by kernel_rfl
@[simp] theorem zerosT50 : zerosT Tryd.prog 50 = some [.v (.slice none 0 0), .v (.slice none 0 0), .v (.slice none 0 0), .v (.int .i64 0)] := by kernel_rfl
theorem elT50 : elT Tryd.prog 50 = some (4, 80, [.slice none 0 0, .slice none 0 0, .slice none 0 0, .int .i64 0], .agg [.v (.slice none 0 0), .v (.slice none 0 0), .v (.slice none 0 0), .v (.int .i64 0)]) := by kernel_rfl
theorem placesL50 : placesL Tryd.prog 50 = some ([.slice none 0 0, .slice none 0 0, .slice none 0 0, .int .i64 0], [(0, 1), (1, 1), (2, 1), (3, 1)]) := by kernel_rfl
@[simp] theorem bld50 (ps : List (Nat × AV)) (S : Subs) : (aBuild Tryd.prog 50 ps).run S = thenR (liveR ps S) fun ps' S => (fillA (([(0, 1), (1, 1), (2, 1), (3, 1)] : List (Nat × Nat))[·]?) [.v (.slice none 0 0), .v (.slice none 0 0), .v (.slice none 0 0), .v (.int .i64 0)] ps').map fun r => (.agg r, S) := build_run placesL50 ps S
@[simp] theorem fieldT50_0 : fieldT Tryd.prog 50 0 = some 0 := by kernel_rfl
@[simp] theorem fieldT50_1 : fieldT Tryd.prog 50 1 = some 1 := by kernel_rfl
@[simp] theorem fieldT50_2 : fieldT Tryd.prog 50 2 = some 2 := by kernel_rfl
@[simp] theorem fieldT50_3 : fieldT Tryd.prog 50 3 = some 3 := by kernel_rfl
@[simp] theorem undT51 : undT Tryd.prog 51 = true := by kernel_rfl
@[simp] theorem aggT51 : aggT Tryd.prog 51 = true := by kernel_rfl
@[simp] theorem szT51 : szT Tryd.prog 51 = some 3 := by kernel_rfl
@[simp] theorem concT51 : concreteT Tryd.prog 51 = true := by kernel_rfl
@[simp] theorem zeroA51 : zeroA Tryd.prog 51 = some (.agg [.v (.int .i64 0), .v (.int .i64 0), .v (.int .i64 0)]) := by kernel_rfl
@[simp] theorem zerosT51 : zerosT Tryd.prog 51 = some [.v (.int .i64 0), .v (.int .i64 0), .v (.int .i64 0)] := by kernel_rfl
theorem elT51 : elT Tryd.prog 51 = some (3, 24, [.int .i64 0, .int .i64 0, .int .i64 0], .agg [.v (.int .i64 0), .v (.int .i64 0), .v (.int .i64 0)]) := by kernel_rfl
theorem placesL51 : placesL Tryd.prog 51 = some ([.int .i64 0, .int .i64 0, .int .i64 0], [(0, 1), (1, 1), (2, 1)]) := by kernel_rfl
@[simp] theorem bld51 (ps : List (Nat × AV)) (S : Subs) : (aBuild Tryd.prog 51 ps).run S = thenR (liveR ps S) fun ps' S => (fillA (([(0, 1), (1, 1), (2, 1)] : List (Nat × Nat))[·]?) [.v (.int .i64 0), .v (.int .i64 0), .v (.int .i64 0)] ps').map fun r => (.agg r, S) := build_run placesL51 ps S
@[simp] theorem fieldT51_0 : fieldT Tryd.prog 51 0 = some 0 := by kernel_rfl
@[simp] theorem fieldT51_1 : fieldT Tryd.prog 51 1 = some 1 := by kernel_rfl
@[simp] theorem fieldT51_2 : fieldT Tryd.prog 51 2 = some 2 := by kernel_rfl
@[simp] theorem undT52 : undT Tryd.prog 52 = true := by kernel_rfl
@[simp] theorem aggT52 : aggT Tryd.prog 52 = true := by kernel_rfl
@[simp] theorem szT52 : szT Tryd.prog 52 = some 3 := by kernel_rfl
@[simp] theorem concT52 : concreteT Tryd.prog 52 = true := by kernel_rfl
@[simp] theorem zeroA52 : zeroA Tryd.prog 52 = some (.agg [.v (.int .i64 0), .v (.int .i64 0), .v (.int .i64 0)]) := by kernel_rfl
@[simp] theorem zerosT52 : zerosT Tryd.prog 52 = some [.v (.int .i64 0), .v (.int .i64 0), .v (.int .i64 0)] := by kernel_rfl
theorem elT52 : elT Tryd.prog 52 = some (3, 24, [.int .i64 0, .int .i64 0, .int .i64 0], .agg [.v (.int .i64 0), .v (.int .i64 0), .v (.int .i64 0)]) := by kernel_rfl
theorem placesL52 : placesL Tryd.prog 52 = some ([.int .i64 0, .int .i64 0, .int .i64 0], [(0, 1), (1, 1), (2, 1)]) := by kernel_rfl
@[simp] theorem bld52 (ps : List (Nat × AV)) (S : Subs) : (aBuild Tryd.prog 52 ps).run S = thenR (liveR ps S) fun ps' S => (fillA (([(0, 1), (1, 1), (2, 1)] : List (Nat × Nat))[·]?) [.v (.int .i64 0), .v (.int .i64 0), .v (.int .i64 0)] ps').map fun r => (.agg r, S) := build_run placesL52 ps S
@[simp] theorem fieldT52_0 : fieldT Tryd.prog 52 0 = some 0 := by kernel_rfl
@[simp] theorem fieldT52_1 : fieldT Tryd.prog 52 1 = some 1 := by kernel_rfl
@[simp] theorem fieldT52_2 : fieldT Tryd.prog 52 2 = some 2 := by kernel_rfl
@[simp] theorem undT54 : undT Tryd.prog 54 = true := by kernel_rfl
@[simp] theorem aggT54 : aggT Tryd.prog 54 = false := by kernel_rfl
@[simp] theorem szT54 : szT Tryd.prog 54 = some 1 := by kernel_rfl
@[simp] theorem concT54 : concreteT Tryd.prog 54 = true := by kernel_rfl
@[simp] theorem zeroA54 : zeroA Tryd.prog 54 = some (.v (.nilFunc)) := by kernel_rfl
@[simp] theorem zerosT54 : zerosT Tryd.prog 54 = some [.v (.nilFunc)] := by kernel_rfl
theorem elT54 : elT Tryd.prog 54 = some (1, 8, [.nilFunc], .v (.nilFunc)) := by kernel_rfl
@[simp] theorem undT56 : undT Tryd.prog 56 = true := by kernel_rfl
@[simp] theorem aggT56 : aggT Tryd.prog 56 = false := by kernel_rfl
@[simp] theorem szT56 : szT Tryd.prog 56 = some 1 := by kernel_rfl
@[simp] theorem concT56 : concreteT Tryd.prog 56 = true := by kernel_rfl
@[simp] theorem zeroA56 : zeroA Tryd.prog 56 = some (.v (.nilFunc)) := by kernel_rfl
@[simp] theorem zerosT56 : zerosT Tryd.prog 56 = some [.v (.nilFunc)] := by kernel_rfl
theorem elT56 : elT Tryd.prog 56 = some (1, 8, [.nilFunc], .v (.nilFunc)) := by kernel_rfl
@[simp] theorem undT58 : undT Tryd.prog 58 = true := by kernel_rfl
@[simp] theorem aggT58 : aggT Tryd.prog 58 = false := by kernel_rfl
@[simp] theorem szT58 : szT Tryd.prog 58 = some 1 := by kernel_rfl
@[simp] theorem concT58 : concreteT Tryd.prog 58 = true := by kernel_rfl
@[simp] theorem zeroA58 : zeroA Tryd.prog 58 = some (.v (.nilFunc)) := by kernel_rfl
@[simp] theorem zerosT58 : zerosT Tryd.prog 58 = some [.v (.nilFunc)] := by kernel_rfl
theorem elT58 : elT Tryd.prog 58 = some (1, 8, [.nilFunc], .v (.nilFunc)) := by kernel_rfl
@[simp] theorem undT59 : undT Tryd.prog 59 = true := by kernel_rfl
@[simp] theorem aggT59 : aggT Tryd.prog 59 = false := by kernel_rfl
@[simp] theorem szT59 : szT Tryd.prog 59 = some 1 := by kernel_rfl
@[simp] theorem concT59 : concreteT Tryd.prog 59 = true := by kernel_rfl
@[simp] theorem zeroA59 : zeroA Tryd.prog 59 = some (.v (.nilFunc)) := by kernel_rfl
@[simp] theorem zerosT59 : zerosT Tryd.prog 59 = some [.v (.nilFunc)] := by kernel_rfl
theorem elT59 : elT Tryd.prog 59 = some (1, 8, [.nilFunc], .v (.nilFunc)) := by kernel_rfl
@[simp] theorem undT60 : undT Tryd.prog 60 = true := by kernel_rfl
@[simp] theorem aggT60 : aggT Tryd.prog 60 = false := by kernel_rfl
@[simp] theorem szT60 : szT Tryd.prog 60 = some 1 := by kernel_rfl
@[simp] theorem concT60 : concreteT Tryd.prog 60 = true := by kernel_rfl
@[simp] theorem zeroA60 : zeroA Tryd.prog 60 = some (.v (.nilFunc)) := by kernel_rfl
@[simp] theorem zerosT60 : zerosT Tryd.prog 60 = some [.v (.nilFunc)] := by kernel_rfl
theorem elT60 : elT Tryd.prog 60 = some (1, 8, [.nilFunc], .v (.nilFunc)) := by kernel_rfl
@[simp] theorem undT61 : undT Tryd.prog 61 = true := by kernel_rfl
@[simp] theorem aggT61 : aggT Tryd.prog 61 = false := by kernel_rfl
@[simp] theorem szT61 : szT Tryd.prog 61 = some 1 := by kernel_rfl
@[simp] theorem concT61 : concreteT Tryd.prog 61 = true := by kernel_rfl
@[simp] theorem zeroA61 : zeroA Tryd.prog 61 = some (.v (.pointer none)) := by kernel_rfl
@[simp] theorem zerosT61 : zerosT Tryd.prog 61 = some [.v (.pointer none)] := by kernel_rfl
theorem elT61 : elT Tryd.prog 61 = some (1, 8, [.pointer none], .v (.pointer none)) := by kernel_rfl
@[simp] theorem undT62 : undT Tryd.prog 62 = true := by kernel_rfl
@[simp] theorem aggT62 : aggT Tryd.prog 62 = false := by kernel_rfl
@[simp] theorem szT62 : szT Tryd.prog 62 = some 1 := by kernel_rfl
@[simp] theorem concT62 : concreteT Tryd.prog 62 = true := by kernel_rfl
@[simp] theorem sliceT62 : sliceT Tryd.prog 62 = some 122 := by kernel_rfl
@[simp] theorem zeroA62 : zeroA Tryd.prog 62 = some (.v (.slice none 0 0)) := by kernel_rfl
@[simp] theorem zerosT62 : zerosT Tryd.prog 62 = some [.v (.slice none 0 0)] := by kernel_rfl
theorem elT62 : elT Tryd.prog 62 = some (1, 24, [.slice none 0 0], .v (.slice none 0 0)) := by kernel_rfl
@[simp] theorem undT63 : undT Tryd.prog 63 = true := by kernel_rfl
@[simp] theorem aggT63 : aggT Tryd.prog 63 = true := by kernel_rfl
@[simp] theorem szT63 : szT Tryd.prog 63 = some 5 := by kernel_rfl
@[simp] theorem concT63 : concreteT Tryd.prog 63 = true := by kernel_rfl
@[simp] theorem zeroA63 : zeroA Tryd.prog 63 = some (.agg [.v (.slice none 0 0), .v (.slice none 0 0), .v (.int .u32 0), .v (.slice none 0 0), .v (.slice none 0 0)]) := by kernel_rfl
@[simp] theorem zerosT63 : zerosT Tryd.prog 63 = some [.v (.slice none 0 0), .v (.slice none 0 0), .v (.int .u32 0), .v (.slice none 0 0), .v (.slice none 0 0)] := by kernel_rfl
theorem elT63 : elT Tryd.prog 63 = some (5, 104, [.slice none 0 0, .slice none 0 0, .int .u32 0, .slice none 0 0, .slice none 0 0], .agg [.v (.slice none 0 0), .v (.slice none 0 0), .v (.int .u32 0), .v (.slice none 0 0), .v (.slice none 0 0)]) := by kernel_rfl
theorem placesL63 : placesL Tryd.prog 63 = some ([.slice none 0 0, .slice none 0 0, .int .u32 0, .slice none 0 0, .slice none 0 0], [(0, 1), (1, 1), (2, 1), (3, 1), (4, 1)]) := by kernel_rfl
@[simp] theorem bld63 (ps : List (Nat × AV)) (S : Subs) : (aBuild Tryd.prog 63 ps).run S = thenR (liveR ps S) fun ps' S => (fillA (([(0, 1), (1, 1), (2, 1), (3, 1), (4, 1)] : List (Nat × Nat))[·]?) [.v (.slice none 0 0), .v (.slice none 0 0), .v (.int .u32 0), .v (.slice none 0 0), .v (.slice none 0 0)] ps').map fun r => (.agg r, S) := build_run placesL63 ps S
@[simp] theorem fieldT63_0 : fieldT Tryd.prog 63 0 = some 0 := by kernel_rfl
@[simp] theorem fieldT63_1 : fieldT Tryd.prog 63 1 = some 1 := by kernel_rfl
@[simp] theorem fieldT63_2 : fieldT Tryd.prog 63 2 = some 2 := by kernel_rfl
@[simp] theorem fieldT63_3 : fieldT Tryd.prog 63 3 = some 3 := by kernel_rfl
@[simp] theorem fieldT63_4 : fieldT Tryd.prog 63 4 = some 4 := by kernel_rfl
@[simp] theorem undT64 : undT Tryd.prog 64 = true := by kernel_rfl
@[simp] theorem aggT64 : aggT Tryd.prog 64 = true := by kernel_rfl
@[simp] theorem szT64 : szT Tryd.prog 64 = some 5 := by kernel_rfl
@[simp] theorem concT64 : concreteT Tryd.prog 64 = true := by kernel_rfl
@[simp] theorem zeroA64 : zeroA Tryd.prog 64 = some (.agg [.v (.slice none 0 0), .v (.slice none 0 0), .v (.int .u32 0), .v (.slice none 0 0), .v (.slice none 0 0)]) := by kernel_rfl
@[simp] theorem zerosT64 : zerosT Tryd.prog 64 = some [.v (.slice none 0 0), .v (.slice none 0 0), .v (.int .u32 0), .v (.slice none 0 0), .v (.slice none 0 0)] := by kernel_rfl
theorem elT64 : elT Tryd.prog 64 = some (5, 104, [.slice none 0 0, .slice none 0 0, .int .u32 0, .slice none 0 0, .slice none 0 0], .agg [.v (.slice none 0 0), .v (.slice none 0 0), .v (.int .u32 0), .v (.slice none 0 0), .v (.slice none 0 0)]) := by kernel_rfl
theorem placesL64 : placesL Tryd.prog 64 = some ([.slice none 0 0, .slice none 0 0, .int .u32 0, .slice none 0 0, .slice none 0 0], [(0, 1), (1, 1), (2, 1), (3, 1), (4, 1)]) := by kernel_rfl
@[simp] theorem bld64 (ps : List (Nat × AV)) (S : Subs) : (aBuild Tryd.prog 64 ps).run S = thenR (liveR ps S) fun ps' S => (fillA (([(0, 1), (1, 1), (2, 1), (3, 1), (4, 1)] : List (Nat × Nat))[·]?) [.v (.slice none 0 0), .v (.slice none 0 0), .v (.int .u32 0), .v (.slice none 0 0), .v (.slice none 0 0)] ps').map fun r => (.agg r, S) := build_run placesL64 ps S
@[simp] theorem fieldT64_0 : fieldT Tryd.prog 64 0 = some 0 := by kernel_rfl
@[simp] theorem fieldT64_1 : fieldT Tryd.prog 64 1 = some 1 := by kernel_rfl
@[simp] theorem fieldT64_2 : fieldT Tryd.prog 64 2 = some 2 := by kernel_rfl
@[simp] theorem fieldT64_3 : fieldT Tryd.prog 64 3 = some 3 := by kernel_rfl
@[simp] theorem fieldT64_4 : fieldT Tryd.prog 64 4 = some 4 := by kernel_rfl
@[simp] theorem undT65 : undT Tryd.prog 65 = true := by kernel_rfl
@[simp] theorem aggT65 : aggT Tryd.prog 65 = false := by kernel_rfl
@[simp] theorem szT65 : szT Tryd.prog 65 = some 1 := by kernel_rfl
@[simp] theorem concT65 : concreteT Tryd.prog 65 = true := by kernel_rfl
@[simp] theorem zeroA65 : zeroA Tryd.prog 65 = some (.v (.nilFunc)) := by kernel_rfl
@[simp] theorem zerosT65 : zerosT Tryd.prog 65 = some [.v (.nilFunc)] := by kernel_rfl
theorem elT65 : elT Tryd.prog 65 = some (1, 8, [.nilFunc], .v (.nilFunc)) := by kernel_rfl
@[simp] theorem undT66 : undT Tryd.prog 66 = true := by kernel_rfl
@[simp] theorem aggT66 : aggT Tryd.prog 66 = false := by kernel_rfl
@[simp] theorem szT66 : szT Tryd.prog 66 = some 1 := by kernel_rfl
@[simp] theorem concT66 : concreteT Tryd.prog 66 = true := by kernel_rfl
@[simp] theorem zeroA66 : zeroA Tryd.prog 66 = some (.v (.nilFunc)) := by kernel_rfl
@[simp] theorem zerosT66 : zerosT Tryd.prog 66 = some [.v (.nilFunc)] := by kernel_rfl
theorem elT66 : elT Tryd.prog 66 = some (1, 8, [.nilFunc], .v (.nilFunc)) := by kernel_rfl
@[simp] theorem undT67 : undT Tryd.prog 67 = true := by kernel_rfl
@[simp] theorem aggT67 : aggT Tryd.prog 67 = false := by kernel_rfl
@[simp] theorem szT67 : szT Tryd.prog 67 = some 1 := by kernel_rfl
@[simp] theorem concT67 : concreteT Tryd.prog 67 = true := by kernel_rfl
@[simp] theorem zeroA67 : zeroA Tryd.prog 67 = some (.v (.pointer none)) := by kernel_rfl
@[simp] theorem zerosT67 : zerosT Tryd.prog 67 = some [.v (.pointer none)] := by kernel_rfl
theorem elT67 : elT Tryd.prog 67 = some (1, 8, [.pointer none], .v (.pointer none)) := by kernel_rfl
@[simp] theorem undT68 : undT Tryd.prog 68 = true := by kernel_rfl
@[simp] theorem aggT68 : aggT Tryd.prog 68 = false := by kernel_rfl
@[simp] theorem szT68 : szT Tryd.prog 68 = some 1 := by kernel_rfl
@[simp] theorem concT68 : concreteT Tryd.prog 68 = true := by kernel_rfl
@[simp] theorem zeroA68 : zeroA Tryd.prog 68 = some (.v (.nilFunc)) := by kernel_rfl
@[simp] theorem zerosT68 : zerosT Tryd.prog 68 = some [.v (.nilFunc)] := by kernel_rfl
theorem elT68 : elT Tryd.prog 68 = some (1, 8, [.nilFunc], .v (.nilFunc)) := by kernel_rfl
@[simp] theorem undT69 : undT Tryd.prog 69 = true := by kernel_rfl
@[simp] theorem aggT69 : aggT Tryd.prog 69 = false := by kernel_rfl
@[simp] theorem szT69 : szT Tryd.prog 69 = some 1 := by kernel_rfl
@[simp] theorem concT69 : concreteT Tryd.prog 69 = true := by kernel_rfl
@[simp] theorem zeroA69 : zeroA Tryd.prog 69 = some (.v (.pointer none)) := by kernel_rfl
@[simp] theorem zerosT69 : zerosT Tryd.prog 69 = some [.v (.pointer none)] := by kernel_rfl
theorem elT69 : elT Tryd.prog 69 = some (1, 8, [.pointer none], .v (.pointer none)) := by kernel_rfl
@[simp] theorem undT70 : undT Tryd.prog 70 = true := by kernel_rfl
@[simp] theorem aggT70 : aggT Tryd.prog 70 = false := by kernel_rfl
@[simp] theorem szT70 : szT Tryd.prog 70 = some 1 := by kernel_rfl
@[simp] theorem concT70 : concreteT Tryd.prog 70 = true := by kernel_rfl
@[simp] theorem intT70 : intT Tryd.prog 70 = some .i64 := by kernel_rfl
@[simp] theorem keyT70 : keyT Tryd.prog 70 = some (.int .i64) := by kernel_rfl
@[simp] theorem u8T70 : u8T Tryd.prog 70 = false := by kernel_rfl
@[simp] theorem zeroA70 : zeroA Tryd.prog 70 = some (.v (.int .i64 0)) := by kernel_rfl
@[simp] theorem zerosT70 : zerosT Tryd.prog 70 = some [.v (.int .i64 0)] := by kernel_rfl
theorem elT70 : elT Tryd.prog 70 = some (1, 8, [.int .i64 0], .v (.int .i64 0)) := by kernel_rfl
@[simp] theorem undT71 : undT Tryd.prog 71 = true := by kernel_rfl
@[simp] theorem aggT71 : aggT Tryd.prog 71 = true := by kernel_rfl
@[simp] theorem szT71 : szT Tryd.prog 71 = some 3 := by kernel_rfl
@[simp] theorem concT71 : concreteT Tryd.prog 71 = true := by kernel_rfl
@[simp] theorem zeroA71 : zeroA Tryd.prog 71 = some (.agg [.v (.string ByteArray.empty), .v (.int .u32 0), .v (.int .i64 0)]) := by kernel_rfl
@[simp] theorem zerosT71 : zerosT Tryd.prog 71 = some [.v (.string ByteArray.empty), .v (.int .u32 0), .v (.int .i64 0)] := by kernel_rfl
theorem elT71 : elT Tryd.prog 71 = some (3, 32, [.string ByteArray.empty, .int .u32 0, .int .i64 0], .agg [.v (.string ByteArray.empty), .v (.int .u32 0), .v (.int .i64 0)]) := by kernel_rfl
theorem placesL71 : placesL Tryd.prog 71 = some ([.string ByteArray.empty, .int .u32 0, .int .i64 0], [(0, 1), (1, 1), (2, 1)]) := by kernel_rfl
@[simp] theorem bld71 (ps : List (Nat × AV)) (S : Subs) : (aBuild Tryd.prog 71 ps).run S = thenR (liveR ps S) fun ps' S => (fillA (([(0, 1), (1, 1), (2, 1)] : List (Nat × Nat))[·]?) [.v (.string ByteArray.empty), .v (.int .u32 0), .v (.int .i64 0)] ps').map fun r => (.agg r, S) := build_run placesL71 ps S
@[simp] theorem fieldT71_0 : fieldT Tryd.prog 71 0 = some 0 := by kernel_rfl
@[simp] theorem fieldT71_1 : fieldT Tryd.prog 71 1 = some 1 := by kernel_rfl
@[simp] theorem fieldT71_2 : fieldT Tryd.prog 71 2 = some 2 := by kernel_rfl
@[simp] theorem undT72 : undT Tryd.prog 72 = true := by kernel_rfl
@[simp] theorem aggT72 : aggT Tryd.prog 72 = true := by kernel_rfl
@[simp] theorem szT72 : szT Tryd.prog 72 = some 3 := by kernel_rfl
@[simp] theorem concT72 : concreteT Tryd.prog 72 = true := by kernel_rfl
@[simp] theorem zeroA72 : zeroA Tryd.prog 72 = some (.agg [.v (.string ByteArray.empty), .v (.int .u32 0), .v (.int .i64 0)]) := by kernel_rfl
@[simp] theorem zerosT72 : zerosT Tryd.prog 72 = some [.v (.string ByteArray.empty), .v (.int .u32 0), .v (.int .i64 0)] := by kernel_rfl
theorem elT72 : elT Tryd.prog 72 = some (3, 32, [.string ByteArray.empty, .int .u32 0, .int .i64 0], .agg [.v (.string ByteArray.empty), .v (.int .u32 0), .v (.int .i64 0)]) := by kernel_rfl
theorem placesL72 : placesL Tryd.prog 72 = some ([.string ByteArray.empty, .int .u32 0, .int .i64 0], [(0, 1), (1, 1), (2, 1)]) := by kernel_rfl
@[simp] theorem bld72 (ps : List (Nat × AV)) (S : Subs) : (aBuild Tryd.prog 72 ps).run S = thenR (liveR ps S) fun ps' S => (fillA (([(0, 1), (1, 1), (2, 1)] : List (Nat × Nat))[·]?) [.v (.string ByteArray.empty), .v (.int .u32 0), .v (.int .i64 0)] ps').map fun r => (.agg r, S) := build_run placesL72 ps S
@[simp] theorem fieldT72_0 : fieldT Tryd.prog 72 0 = some 0 := by kernel_rfl
@[simp] theorem fieldT72_1 : fieldT Tryd.prog 72 1 = some 1 := by kernel_rfl
@[simp] theorem fieldT72_2 : fieldT Tryd.prog 72 2 = some 2 := by kernel_rfl
@[simp] theorem undT73 : undT Tryd.prog 73 = true := by kernel_rfl
@[simp] theorem aggT73 : aggT Tryd.prog 73 = true := by kernel_rfl
@[simp] theorem szT73 : szT Tryd.prog 73 = some 3 := by kernel_rfl
@[simp] theorem concT73 : concreteT Tryd.prog 73 = true := by kernel_rfl
@[simp] theorem zeroA73 : zeroA Tryd.prog 73 = some (.agg [.v (.string ByteArray.empty), .v (.int .u32 0), .v (.int .i64 0)]) := by kernel_rfl
@[simp] theorem zerosT73 : zerosT Tryd.prog 73 = some [.v (.string ByteArray.empty), .v (.int .u32 0), .v (.int .i64 0)] := by kernel_rfl
theorem elT73 : elT Tryd.prog 73 = some (3, 32, [.string ByteArray.empty, .int .u32 0, .int .i64 0], .agg [.v (.string ByteArray.empty), .v (.int .u32 0), .v (.int .i64 0)]) := by kernel_rfl
theorem placesL73 : placesL Tryd.prog 73 = some ([.string ByteArray.empty, .int .u32 0, .int .i64 0], [(0, 1), (1, 1), (2, 1)]) := by kernel_rfl
@[simp] theorem bld73 (ps : List (Nat × AV)) (S : Subs) : (aBuild Tryd.prog 73 ps).run S = thenR (liveR ps S) fun ps' S => (fillA (([(0, 1), (1, 1), (2, 1)] : List (Nat × Nat))[·]?) [.v (.string ByteArray.empty), .v (.int .u32 0), .v (.int .i64 0)] ps').map fun r => (.agg r, S) := build_run placesL73 ps S
@[simp] theorem fieldT73_0 : fieldT Tryd.prog 73 0 = some 0 := by kernel_rfl
@[simp] theorem fieldT73_1 : fieldT Tryd.prog 73 1 = some 1 := by kernel_rfl
@[simp] theorem fieldT73_2 : fieldT Tryd.prog 73 2 = some 2 := by kernel_rfl
@[simp] theorem undT74 : undT Tryd.prog 74 = true := by kernel_rfl
@[simp] theorem aggT74 : aggT Tryd.prog 74 = true := by kernel_rfl
@[simp] theorem szT74 : szT Tryd.prog 74 = some 3 := by kernel_rfl
@[simp] theorem concT74 : concreteT Tryd.prog 74 = true := by kernel_rfl
@[simp] theorem zeroA74 : zeroA Tryd.prog 74 = some (.agg [.v (.string ByteArray.empty), .v (.int .u32 0), .v (.int .i64 0)]) := by kernel_rfl
@[simp] theorem zerosT74 : zerosT Tryd.prog 74 = some [.v (.string ByteArray.empty), .v (.int .u32 0), .v (.int .i64 0)] := by kernel_rfl
theorem elT74 : elT Tryd.prog 74 = some (3, 32, [.string ByteArray.empty, .int .u32 0, .int .i64 0], .agg [.v (.string ByteArray.empty), .v (.int .u32 0), .v (.int .i64 0)]) := by kernel_rfl
theorem placesL74 : placesL Tryd.prog 74 = some ([.string ByteArray.empty, .int .u32 0, .int .i64 0], [(0, 1), (1, 1), (2, 1)]) := by kernel_rfl
@[simp] theorem bld74 (ps : List (Nat × AV)) (S : Subs) : (aBuild Tryd.prog 74 ps).run S = thenR (liveR ps S) fun ps' S => (fillA (([(0, 1), (1, 1), (2, 1)] : List (Nat × Nat))[·]?) [.v (.string ByteArray.empty), .v (.int .u32 0), .v (.int .i64 0)] ps').map fun r => (.agg r, S) := build_run placesL74 ps S
@[simp] theorem fieldT74_0 : fieldT Tryd.prog 74 0 = some 0 := by kernel_rfl
@[simp] theorem fieldT74_1 : fieldT Tryd.prog 74 1 = some 1 := by kernel_rfl
@[simp] theorem fieldT74_2 : fieldT Tryd.prog 74 2 = some 2 := by kernel_rfl
@[simp] theorem undT76 : undT Tryd.prog 76 = true := by kernel_rfl
@[simp] theorem aggT76 : aggT Tryd.prog 76 = false := by kernel_rfl
@[simp] theorem szT76 : szT Tryd.prog 76 = some 1 := by kernel_rfl
@[simp] theorem concT76 : concreteT Tryd.prog 76 = true := by kernel_rfl
@[simp] theorem zeroA76 : zeroA Tryd.prog 76 = some (.v (.nilFunc)) := by kernel_rfl
@[simp] theorem zerosT76 : zerosT Tryd.prog 76 = some [.v (.nilFunc)] := by kernel_rfl
theorem elT76 : elT Tryd.prog 76 = some (1, 8, [.nilFunc], .v (.nilFunc)) := by kernel_rfl
@[simp] theorem undT78 : undT Tryd.prog 78 = true := by kernel_rfl
@[simp] theorem aggT78 : aggT Tryd.prog 78 = false := by kernel_rfl
@[simp] theorem szT78 : szT Tryd.prog 78 = some 1 := by kernel_rfl
@[simp] theorem concT78 : concreteT Tryd.prog 78 = true := by kernel_rfl
@[simp] theorem zeroA78 : zeroA Tryd.prog 78 = some (.v (.nilFunc)) := by kernel_rfl
@[simp] theorem zerosT78 : zerosT Tryd.prog 78 = some [.v (.nilFunc)] := by kernel_rfl
theorem elT78 : elT Tryd.prog 78 = some (1, 8, [.nilFunc], .v (.nilFunc)) := by kernel_rfl
@[simp] theorem undT79 : undT Tryd.prog 79 = true := by kernel_rfl
@[simp] theorem aggT79 : aggT Tryd.prog 79 = false := by kernel_rfl
@[simp] theorem szT79 : szT Tryd.prog 79 = some 1 := by kernel_rfl
@[simp] theorem concT79 : concreteT Tryd.prog 79 = true := by kernel_rfl
@[simp] theorem zeroA79 : zeroA Tryd.prog 79 = some (.v (.nilFunc)) := by kernel_rfl
@[simp] theorem zerosT79 : zerosT Tryd.prog 79 = some [.v (.nilFunc)] := by kernel_rfl
theorem elT79 : elT Tryd.prog 79 = some (1, 8, [.nilFunc], .v (.nilFunc)) := by kernel_rfl
@[simp] theorem undT80 : undT Tryd.prog 80 = true := by kernel_rfl
@[simp] theorem aggT80 : aggT Tryd.prog 80 = false := by kernel_rfl
@[simp] theorem szT80 : szT Tryd.prog 80 = some 1 := by kernel_rfl
@[simp] theorem concT80 : concreteT Tryd.prog 80 = true := by kernel_rfl
@[simp] theorem sliceT80 : sliceT Tryd.prog 80 = some 5 := by kernel_rfl
@[simp] theorem zeroA80 : zeroA Tryd.prog 80 = some (.v (.slice none 0 0)) := by kernel_rfl
@[simp] theorem zerosT80 : zerosT Tryd.prog 80 = some [.v (.slice none 0 0)] := by kernel_rfl
theorem elT80 : elT Tryd.prog 80 = some (1, 24, [.slice none 0 0], .v (.slice none 0 0)) := by kernel_rfl
@[simp] theorem undT81 : undT Tryd.prog 81 = true := by kernel_rfl
@[simp] theorem aggT81 : aggT Tryd.prog 81 = false := by kernel_rfl
@[simp] theorem szT81 : szT Tryd.prog 81 = some 1 := by kernel_rfl
@[simp] theorem concT81 : concreteT Tryd.prog 81 = true := by kernel_rfl
@[simp] theorem zeroA81 : zeroA Tryd.prog 81 = some (.v (.nilFunc)) := by kernel_rfl
@[simp] theorem zerosT81 : zerosT Tryd.prog 81 = some [.v (.nilFunc)] := by kernel_rfl
theorem elT81 : elT Tryd.prog 81 = some (1, 8, [.nilFunc], .v (.nilFunc)) := by kernel_rfl
@[simp] theorem undT83 : undT Tryd.prog 83 = true := by kernel_rfl
@[simp] theorem aggT83 : aggT Tryd.prog 83 = false := by kernel_rfl
@[simp] theorem szT83 : szT Tryd.prog 83 = some 1 := by kernel_rfl
@[simp] theorem concT83 : concreteT Tryd.prog 83 = true := by kernel_rfl
@[simp] theorem zeroA83 : zeroA Tryd.prog 83 = some (.v (.nilFunc)) := by kernel_rfl
@[simp] theorem zerosT83 : zerosT Tryd.prog 83 = some [.v (.nilFunc)] := by kernel_rfl
theorem elT83 : elT Tryd.prog 83 = some (1, 8, [.nilFunc], .v (.nilFunc)) := by kernel_rfl
@[simp] theorem undT84 : undT Tryd.prog 84 = true := by kernel_rfl
@[simp] theorem aggT84 : aggT Tryd.prog 84 = false := by kernel_rfl
@[simp] theorem szT84 : szT Tryd.prog 84 = some 1 := by kernel_rfl
@[simp] theorem concT84 : concreteT Tryd.prog 84 = true := by kernel_rfl
@[simp] theorem zeroA84 : zeroA Tryd.prog 84 = some (.v (.nilFunc)) := by kernel_rfl
@[simp] theorem zerosT84 : zerosT Tryd.prog 84 = some [.v (.nilFunc)] := by kernel_rfl
theorem elT84 : elT Tryd.prog 84 = some (1, 8, [.nilFunc], .v (.nilFunc)) := by kernel_rfl
@[simp] theorem undT85 : undT Tryd.prog 85 = true := by kernel_rfl
@[simp] theorem aggT85 : aggT Tryd.prog 85 = false := by kernel_rfl
@[simp] theorem szT85 : szT Tryd.prog 85 = some 1 := by kernel_rfl
@[simp] theorem concT85 : concreteT Tryd.prog 85 = true := by kernel_rfl
@[simp] theorem zeroA85 : zeroA Tryd.prog 85 = some (.v (.nilFunc)) := by kernel_rfl
@[simp] theorem zerosT85 : zerosT Tryd.prog 85 = some [.v (.nilFunc)] := by kernel_rfl
theorem elT85 : elT Tryd.prog 85 = some (1, 8, [.nilFunc], .v (.nilFunc)) := by kernel_rfl
@[simp] theorem undT86 : undT Tryd.prog 86 = true := by kernel_rfl
@[simp] theorem aggT86 : aggT Tryd.prog 86 = false := by kernel_rfl
@[simp] theorem szT86 : szT Tryd.prog 86 = some 1 := by kernel_rfl
@[simp] theorem concT86 : concreteT Tryd.prog 86 = true := by kernel_rfl
@[simp] theorem zeroA86 : zeroA Tryd.prog 86 = some (.v (.nilFunc)) := by kernel_rfl
@[simp] theorem zerosT86 : zerosT Tryd.prog 86 = some [.v (.nilFunc)] := by kernel_rfl
theorem elT86 : elT Tryd.prog 86 = some (1, 8, [.nilFunc], .v (.nilFunc)) := by kernel_rfl
@[simp] theorem undT87 : undT Tryd.prog 87 = true := by kernel_rfl
@[simp] theorem aggT87 : aggT Tryd.prog 87 = false := by kernel_rfl
@[simp] theorem szT87 : szT Tryd.prog 87 = some 1 := by kernel_rfl
@[simp] theorem concT87 : concreteT Tryd.prog 87 = true := by kernel_rfl
@[simp] theorem intT87 : intT Tryd.prog 87 = some .i64 := by kernel_rfl
@[simp] theorem keyT87 : keyT Tryd.prog 87 = some (.int .i64) := by kernel_rfl
@[simp] theorem u8T87 : u8T Tryd.prog 87 = false := by kernel_rfl
@[simp] theorem zeroA87 : zeroA Tryd.prog 87 = some (.v (.int .i64 0)) := by kernel_rfl
@[simp] theorem zerosT87 : zerosT Tryd.prog 87 = some [.v (.int .i64 0)] := by kernel_rfl
theorem elT87 : elT Tryd.prog 87 = some (1, 8, [.int .i64 0], .v (.int .i64 0)) := by kernel_rfl
@[simp] theorem undT89 : undT Tryd.prog 89 = true := by kernel_rfl
@[simp] theorem aggT89 : aggT Tryd.prog 89 = true := by kernel_rfl
@[simp] theorem szT89 : szT Tryd.prog 89 = some 3 := by kernel_rfl
@[simp] theorem concT89 : concreteT Tryd.prog 89 = true := by kernel_rfl
@[simp] theorem zeroA89 : zeroA Tryd.prog 89 = some (.agg [.v (.int .i64 0), .v (.int .i64 0), .v (.nilIface)]) := by kernel_rfl
@[simp] theorem zerosT89 : zerosT Tryd.prog 89 = some [.v (.int .i64 0), .v (.int .i64 0), .v (.nilIface)] := by kernel_rfl
theorem elT89 : elT Tryd.prog 89 = some (3, 32, [.int .i64 0, .int .i64 0, .nilIface], .agg [.v (.int .i64 0), .v (.int .i64 0), .v (.nilIface)]) := by kernel_rfl
theorem placesL89 : placesL Tryd.prog 89 = some ([.int .i64 0, .int .i64 0, .nilIface], [(0, 1), (1, 1), (2, 1)]) := by kernel_rfl
@[simp] theorem bld89 (ps : List (Nat × AV)) (S : Subs) : (aBuild Tryd.prog 89 ps).run S = thenR (liveR ps S) fun ps' S => (fillA (([(0, 1), (1, 1), (2, 1)] : List (Nat × Nat))[·]?) [.v (.int .i64 0), .v (.int .i64 0), .v (.nilIface)] ps').map fun r => (.agg r, S) := build_run placesL89 ps S
@[simp] theorem fieldT89_0 : fieldT Tryd.prog 89 0 = some 0 := by kernel_rfl
@[simp] theorem fieldT89_1 : fieldT Tryd.prog 89 1 = some 1 := by kernel_rfl
@[simp] theorem fieldT89_2 : fieldT Tryd.prog 89 2 = some 2 := by kernel_rfl
@[simp] theorem undT90 : undT Tryd.prog 90 = true := by kernel_rfl
@[simp] theorem aggT90 : aggT Tryd.prog 90 = false := by kernel_rfl
@[simp] theorem szT90 : szT Tryd.prog 90 = some 1 := by kernel_rfl
@[simp] theorem concT90 : concreteT Tryd.prog 90 = true := by kernel_rfl
@[simp] theorem zeroA90 : zeroA Tryd.prog 90 = some (.v (.nilFunc)) := by kernel_rfl
@[simp] theorem zerosT90 : zerosT Tryd.prog 90 = some [.v (.nilFunc)] := by kernel_rfl
theorem elT90 : elT Tryd.prog 90 = some (1, 8, [.nilFunc], .v (.nilFunc)) := by kernel_rfl
@[simp] theorem undT91 : undT Tryd.prog 91 = true := by kernel_rfl
@[simp] theorem aggT91 : aggT Tryd.prog 91 = false := by kernel_rfl
@[simp] theorem szT91 : szT Tryd.prog 91 = some 1 := by kernel_rfl
@[simp] theorem concT91 : concreteT Tryd.prog 91 = true := by kernel_rfl
@[simp] theorem zeroA91 : zeroA Tryd.prog 91 = some (.v (.nilFunc)) := by kernel_rfl
@[simp] theorem zerosT91 : zerosT Tryd.prog 91 = some [.v (.nilFunc)] := by kernel_rfl
theorem elT91 : elT Tryd.prog 91 = some (1, 8, [.nilFunc], .v (.nilFunc)) := by kernel_rfl
@[simp] theorem undT94 : undT Tryd.prog 94 = true := by kernel_rfl
@[simp] theorem aggT94 : aggT Tryd.prog 94 = false := by kernel_rfl
@[simp] theorem szT94 : szT Tryd.prog 94 = some 1 := by kernel_rfl
@[simp] theorem concT94 : concreteT Tryd.prog 94 = true := by kernel_rfl
@[simp] theorem zeroA94 : zeroA Tryd.prog 94 = some (.v (.nilFunc)) := by kernel_rfl
@[simp] theorem zerosT94 : zerosT Tryd.prog 94 = some [.v (.nilFunc)] := by kernel_rfl
theorem elT94 : elT Tryd.prog 94 = some (1, 8, [.nilFunc], .v (.nilFunc)) := by kernel_rfl
@[simp] theorem undT98 : undT Tryd.prog 98 = true := by kernel_rfl
@[simp] theorem aggT98 : aggT Tryd.prog 98 = false := by kernel_rfl
@[simp] theorem szT98 : szT Tryd.prog 98 = some 1 := by kernel_rfl
@[simp] theorem concT98 : concreteT Tryd.prog 98 = true := by kernel_rfl
@[simp] theorem undT99 : undT Tryd.prog 99 = true := by kernel_rfl
@[simp] theorem aggT99 : aggT Tryd.prog 99 = false := by kernel_rfl
@[simp] theorem szT99 : szT Tryd.prog 99 = some 1 := by kernel_rfl
@[simp] theorem concT99 : concreteT Tryd.prog 99 = true := by kernel_rfl
@[simp] theorem intT99 : intT Tryd.prog 99 = some .u64 := by kernel_rfl
@[simp] theorem keyT99 : keyT Tryd.prog 99 = some (.int .u64) := by kernel_rfl
@[simp] theorem u8T99 : u8T Tryd.prog 99 = false := by kernel_rfl
@[simp] theorem zeroA99 : zeroA Tryd.prog 99 = some (.v (.int .u64 0)) := by kernel_rfl
@[simp] theorem zerosT99 : zerosT Tryd.prog 99 = some [.v (.int .u64 0)] := by kernel_rfl
theorem elT99 : elT Tryd.prog 99 = some (1, 8, [.int .u64 0], .v (.int .u64 0)) := by kernel_rfl
@[simp] theorem undT101 : undT Tryd.prog 101 = true := by kernel_rfl
@[simp] theorem aggT101 : aggT Tryd.prog 101 = true := by kernel_rfl
@[simp] theorem szT101 : szT Tryd.prog 101 = some 3 := by kernel_rfl
@[simp] theorem concT101 : concreteT Tryd.prog 101 = true := by kernel_rfl
@[simp] theorem fieldT101_0 : fieldT Tryd.prog 101 0 = some 0 := by kernel_rfl
@[simp] theorem fieldT101_1 : fieldT Tryd.prog 101 1 = some 1 := by kernel_rfl
@[simp] theorem fieldT101_2 : fieldT Tryd.prog 101 2 = some 2 := by kernel_rfl
@[simp] theorem undT103 : undT Tryd.prog 103 = true := by kernel_rfl
@[simp] theorem aggT103 : aggT Tryd.prog 103 = false := by kernel_rfl
@[simp] theorem szT103 : szT Tryd.prog 103 = some 1 := by kernel_rfl
@[simp] theorem concT103 : concreteT Tryd.prog 103 = false := by kernel_rfl
@[simp] theorem ifaceT103 : ifaceT Tryd.prog 103 = true := by kernel_rfl
@[simp] theorem zeroA103 : zeroA Tryd.prog 103 = some (.v (.nilIface)) := by kernel_rfl
@[simp] theorem zerosT103 : zerosT Tryd.prog 103 = some [.v (.nilIface)] := by kernel_rfl
theorem elT103 : elT Tryd.prog 103 = some (1, 16, [.nilIface], .v (.nilIface)) := by kernel_rfl
@[simp] theorem undT104 : undT Tryd.prog 104 = true := by kernel_rfl
@[simp] theorem aggT104 : aggT Tryd.prog 104 = false := by kernel_rfl
@[simp] theorem szT104 : szT Tryd.prog 104 = some 1 := by kernel_rfl
@[simp] theorem concT104 : concreteT Tryd.prog 104 = false := by kernel_rfl
@[simp] theorem ifaceT104 : ifaceT Tryd.prog 104 = true := by kernel_rfl
@[simp] theorem zeroA104 : zeroA Tryd.prog 104 = some (.v (.nilIface)) := by kernel_rfl
@[simp] theorem zerosT104 : zerosT Tryd.prog 104 = some [.v (.nilIface)] := by kernel_rfl
theorem elT104 : elT Tryd.prog 104 = some (1, 16, [.nilIface], .v (.nilIface)) := by kernel_rfl
@[simp] theorem undT106 : undT Tryd.prog 106 = true := by kernel_rfl
@[simp] theorem aggT106 : aggT Tryd.prog 106 = false := by kernel_rfl
@[simp] theorem szT106 : szT Tryd.prog 106 = some 1 := by kernel_rfl
@[simp] theorem concT106 : concreteT Tryd.prog 106 = true := by kernel_rfl
@[simp] theorem intT106 : intT Tryd.prog 106 = some .u8 := by kernel_rfl
@[simp] theorem keyT106 : keyT Tryd.prog 106 = some (.int .u8) := by kernel_rfl
@[simp] theorem u8T106 : u8T Tryd.prog 106 = true := by kernel_rfl
@[simp] theorem zeroA106 : zeroA Tryd.prog 106 = some (.v (.int .u8 0)) := by kernel_rfl
@[simp] theorem zerosT106 : zerosT Tryd.prog 106 = some [.v (.int .u8 0)] := by kernel_rfl
theorem elT106 : elT Tryd.prog 106 = some (1, 1, [.int .u8 0], .v (.int .u8 0)) := by kernel_rfl
@[simp] theorem undT108 : undT Tryd.prog 108 = true := by kernel_rfl
@[simp] theorem aggT108 : aggT Tryd.prog 108 = false := by kernel_rfl
@[simp] theorem szT108 : szT Tryd.prog 108 = some 1 := by kernel_rfl
@[simp] theorem concT108 : concreteT Tryd.prog 108 = true := by kernel_rfl
@[simp] theorem zeroA108 : zeroA Tryd.prog 108 = some (.v (.nilFunc)) := by kernel_rfl
@[simp] theorem zerosT108 : zerosT Tryd.prog 108 = some [.v (.nilFunc)] := by kernel_rfl
theorem elT108 : elT Tryd.prog 108 = some (1, 8, [.nilFunc], .v (.nilFunc)) := by kernel_rfl
@[simp] theorem undT115 : undT Tryd.prog 115 = true := by kernel_rfl
@[simp] theorem aggT115 : aggT Tryd.prog 115 = false := by kernel_rfl
@[simp] theorem szT115 : szT Tryd.prog 115 = some 1 := by kernel_rfl
@[simp] theorem concT115 : concreteT Tryd.prog 115 = true := by kernel_rfl
@[simp] theorem zeroA115 : zeroA Tryd.prog 115 = some (.v (.nilFunc)) := by kernel_rfl
@[simp] theorem zerosT115 : zerosT Tryd.prog 115 = some [.v (.nilFunc)] := by kernel_rfl
theorem elT115 : elT Tryd.prog 115 = some (1, 8, [.nilFunc], .v (.nilFunc)) := by kernel_rfl
@[simp] theorem undT118 : undT Tryd.prog 118 = true := by kernel_rfl
@[simp] theorem aggT118 : aggT Tryd.prog 118 = false := by kernel_rfl
@[simp] theorem szT118 : szT Tryd.prog 118 = some 1 := by kernel_rfl
@[simp] theorem concT118 : concreteT Tryd.prog 118 = true := by kernel_rfl
@[simp] theorem mapT118 : mapT Tryd.prog 118 = some (9, 4) := by kernel_rfl
@[simp] theorem zeroA118 : zeroA Tryd.prog 118 = some (.v (.map none)) := by kernel_rfl
@[simp] theorem zerosT118 : zerosT Tryd.prog 118 = some [.v (.map none)] := by kernel_rfl
theorem elT118 : elT Tryd.prog 118 = some (1, 8, [.map none], .v (.map none)) := by kernel_rfl
@[simp] theorem undT120 : undT Tryd.prog 120 = true := by kernel_rfl
@[simp] theorem aggT120 : aggT Tryd.prog 120 = false := by kernel_rfl
@[simp] theorem szT120 : szT Tryd.prog 120 = some 1 := by kernel_rfl
@[simp] theorem concT120 : concreteT Tryd.prog 120 = true := by kernel_rfl
@[simp] theorem mapT120 : mapT Tryd.prog 120 = some (9, 122) := by kernel_rfl
@[simp] theorem zeroA120 : zeroA Tryd.prog 120 = some (.v (.map none)) := by kernel_rfl
@[simp] theorem zerosT120 : zerosT Tryd.prog 120 = some [.v (.map none)] := by kernel_rfl
theorem elT120 : elT Tryd.prog 120 = some (1, 8, [.map none], .v (.map none)) := by kernel_rfl
@[simp] theorem undT122 : undT Tryd.prog 122 = true := by kernel_rfl
@[simp] theorem aggT122 : aggT Tryd.prog 122 = true := by kernel_rfl
@[simp] theorem szT122 : szT Tryd.prog 122 = some 3 := by kernel_rfl
@[simp] theorem concT122 : concreteT Tryd.prog 122 = true := by kernel_rfl
@[simp] theorem zeroA122 : zeroA Tryd.prog 122 = some (.agg [.v (.int .i64 0), .v (.int .i64 0), .v (.int .u32 0)]) := by kernel_rfl
@[simp] theorem zerosT122 : zerosT Tryd.prog 122 = some [.v (.int .i64 0), .v (.int .i64 0), .v (.int .u32 0)] := by kernel_rfl
theorem elT122 : elT Tryd.prog 122 = some (3, 24, [.int .i64 0, .int .i64 0, .int .u32 0], .agg [.v (.int .i64 0), .v (.int .i64 0), .v (.int .u32 0)]) := by kernel_rfl
theorem placesL122 : placesL Tryd.prog 122 = some ([.int .i64 0, .int .i64 0, .int .u32 0], [(0, 1), (1, 1), (2, 1)]) := by kernel_rfl
@[simp] theorem bld122 (ps : List (Nat × AV)) (S : Subs) : (aBuild Tryd.prog 122 ps).run S = thenR (liveR ps S) fun ps' S => (fillA (([(0, 1), (1, 1), (2, 1)] : List (Nat × Nat))[·]?) [.v (.int .i64 0), .v (.int .i64 0), .v (.int .u32 0)] ps').map fun r => (.agg r, S) := build_run placesL122 ps S
@[simp] theorem fieldT122_0 : fieldT Tryd.prog 122 0 = some 0 := by kernel_rfl
@[simp] theorem fieldT122_1 : fieldT Tryd.prog 122 1 = some 1 := by kernel_rfl
@[simp] theorem fieldT122_2 : fieldT Tryd.prog 122 2 = some 2 := by kernel_rfl
@[simp] theorem undT133 : undT Tryd.prog 133 = true := by kernel_rfl
@[simp] theorem aggT133 : aggT Tryd.prog 133 = false := by kernel_rfl
@[simp] theorem szT133 : szT Tryd.prog 133 = some 1 := by kernel_rfl
@[simp] theorem concT133 : concreteT Tryd.prog 133 = true := by kernel_rfl
@[simp] theorem zeroA133 : zeroA Tryd.prog 133 = some (.v (.nilFunc)) := by kernel_rfl
@[simp] theorem zerosT133 : zerosT Tryd.prog 133 = some [.v (.nilFunc)] := by kernel_rfl
theorem elT133 : elT Tryd.prog 133 = some (1, 8, [.nilFunc], .v (.nilFunc)) := by kernel_rfl
@[simp] theorem undT134 : undT Tryd.prog 134 = true := by kernel_rfl
@[simp] theorem aggT134 : aggT Tryd.prog 134 = false := by kernel_rfl
@[simp] theorem szT134 : szT Tryd.prog 134 = some 1 := by kernel_rfl
@[simp] theorem concT134 : concreteT Tryd.prog 134 = false := by kernel_rfl
@[simp] theorem ifaceT134 : ifaceT Tryd.prog 134 = true := by kernel_rfl
@[simp] theorem zeroA134 : zeroA Tryd.prog 134 = some (.v (.nilIface)) := by kernel_rfl
@[simp] theorem zerosT134 : zerosT Tryd.prog 134 = some [.v (.nilIface)] := by kernel_rfl
theorem elT134 : elT Tryd.prog 134 = some (1, 16, [.nilIface], .v (.nilIface)) := by kernel_rfl
@[simp] theorem undT142 : undT Tryd.prog 142 = true := by kernel_rfl
@[simp] theorem aggT142 : aggT Tryd.prog 142 = false := by kernel_rfl
@[simp] theorem szT142 : szT Tryd.prog 142 = some 1 := by kernel_rfl
@[simp] theorem concT142 : concreteT Tryd.prog 142 = true := by kernel_rfl
@[simp] theorem intT142 : intT Tryd.prog 142 = some .u64 := by kernel_rfl
@[simp] theorem keyT142 : keyT Tryd.prog 142 = some (.int .u64) := by kernel_rfl
@[simp] theorem u8T142 : u8T Tryd.prog 142 = false := by kernel_rfl
@[simp] theorem zeroA142 : zeroA Tryd.prog 142 = some (.v (.int .u64 0)) := by kernel_rfl
@[simp] theorem zerosT142 : zerosT Tryd.prog 142 = some [.v (.int .u64 0)] := by kernel_rfl
theorem elT142 : elT Tryd.prog 142 = some (1, 8, [.int .u64 0], .v (.int .u64 0)) := by kernel_rfl
@[simp] theorem undT143 : undT Tryd.prog 143 = true := by kernel_rfl
@[simp] theorem aggT143 : aggT Tryd.prog 143 = false := by kernel_rfl
@[simp] theorem szT143 : szT Tryd.prog 143 = some 1 := by kernel_rfl
@[simp] theorem concT143 : concreteT Tryd.prog 143 = true := by kernel_rfl
@[simp] theorem zeroA143 : zeroA Tryd.prog 143 = some (.v (.nilFunc)) := by kernel_rfl
@[simp] theorem zerosT143 : zerosT Tryd.prog 143 = some [.v (.nilFunc)] := by kernel_rfl
theorem elT143 : elT Tryd.prog 143 = some (1, 8, [.nilFunc], .v (.nilFunc)) := by kernel_rfl
@[simp] theorem undT144 : undT Tryd.prog 144 = true := by kernel_rfl
@[simp] theorem aggT144 : aggT Tryd.prog 144 = false := by kernel_rfl
@[simp] theorem szT144 : szT Tryd.prog 144 = some 1 := by kernel_rfl
@[simp] theorem concT144 : concreteT Tryd.prog 144 = true := by kernel_rfl
@[simp] theorem zeroA144 : zeroA Tryd.prog 144 = some (.v (.nilFunc)) := by kernel_rfl
@[simp] theorem zerosT144 : zerosT Tryd.prog 144 = some [.v (.nilFunc)] := by kernel_rfl
theorem elT144 : elT Tryd.prog 144 = some (1, 8, [.nilFunc], .v (.nilFunc)) := by kernel_rfl
@[simp] theorem undT146 : undT Tryd.prog 146 = true := by kernel_rfl
@[simp] theorem aggT146 : aggT Tryd.prog 146 = false := by kernel_rfl
@[simp] theorem szT146 : szT Tryd.prog 146 = some 1 := by kernel_rfl
@[simp] theorem concT146 : concreteT Tryd.prog 146 = true := by kernel_rfl
@[simp] theorem intT146 : intT Tryd.prog 146 = some .u64 := by kernel_rfl
@[simp] theorem keyT146 : keyT Tryd.prog 146 = some (.int .u64) := by kernel_rfl
@[simp] theorem u8T146 : u8T Tryd.prog 146 = false := by kernel_rfl
@[simp] theorem zeroA146 : zeroA Tryd.prog 146 = some (.v (.int .u64 0)) := by kernel_rfl
@[simp] theorem zerosT146 : zerosT Tryd.prog 146 = some [.v (.int .u64 0)] := by kernel_rfl
theorem elT146 : elT Tryd.prog 146 = some (1, 8, [.int .u64 0], .v (.int .u64 0)) := by kernel_rfl
@[simp] theorem undT148 : undT Tryd.prog 148 = true := by kernel_rfl
@[simp] theorem aggT148 : aggT Tryd.prog 148 = true := by kernel_rfl
@[simp] theorem szT148 : szT Tryd.prog 148 = some 3 := by kernel_rfl
@[simp] theorem concT148 : concreteT Tryd.prog 148 = true := by kernel_rfl
@[simp] theorem zeroA148 : zeroA Tryd.prog 148 = some (.agg [.v (.int .u64 0), .v (.int .u64 0), .v (.nilIface)]) := by kernel_rfl
@[simp] theorem zerosT148 : zerosT Tryd.prog 148 = some [.v (.int .u64 0), .v (.int .u64 0), .v (.nilIface)] := by kernel_rfl
theorem elT148 : elT Tryd.prog 148 = some (3, 32, [.int .u64 0, .int .u64 0, .nilIface], .agg [.v (.int .u64 0), .v (.int .u64 0), .v (.nilIface)]) := by kernel_rfl
theorem placesL148 : placesL Tryd.prog 148 = some ([.int .u64 0, .int .u64 0, .nilIface], [(0, 1), (1, 1), (2, 1)]) := by kernel_rfl
@[simp] theorem bld148 (ps : List (Nat × AV)) (S : Subs) : (aBuild Tryd.prog 148 ps).run S = thenR (liveR ps S) fun ps' S => (fillA (([(0, 1), (1, 1), (2, 1)] : List (Nat × Nat))[·]?) [.v (.int .u64 0), .v (.int .u64 0), .v (.nilIface)] ps').map fun r => (.agg r, S) := build_run placesL148 ps S
@[simp] theorem fieldT148_0 : fieldT Tryd.prog 148 0 = some 0 := by kernel_rfl
@[simp] theorem fieldT148_1 : fieldT Tryd.prog 148 1 = some 1 := by kernel_rfl
@[simp] theorem fieldT148_2 : fieldT Tryd.prog 148 2 = some 2 := by kernel_rfl
@[simp] theorem undT153 : undT Tryd.prog 153 = true := by kernel_rfl
@[simp] theorem aggT153 : aggT Tryd.prog 153 = false := by kernel_rfl
@[simp] theorem szT153 : szT Tryd.prog 153 = some 1 := by kernel_rfl
@[simp] theorem concT153 : concreteT Tryd.prog 153 = true := by kernel_rfl
@[simp] theorem intT153 : intT Tryd.prog 153 = some .i64 := by kernel_rfl
@[simp] theorem keyT153 : keyT Tryd.prog 153 = some (.int .i64) := by kernel_rfl
@[simp] theorem u8T153 : u8T Tryd.prog 153 = false := by kernel_rfl
@[simp] theorem zeroA153 : zeroA Tryd.prog 153 = some (.v (.int .i64 0)) := by kernel_rfl
@[simp] theorem zerosT153 : zerosT Tryd.prog 153 = some [.v (.int .i64 0)] := by kernel_rfl
theorem elT153 : elT Tryd.prog 153 = some (1, 8, [.int .i64 0], .v (.int .i64 0)) := by kernel_rfl
@[simp] theorem undT162 : undT Tryd.prog 162 = true := by kernel_rfl
@[simp] theorem aggT162 : aggT Tryd.prog 162 = false := by kernel_rfl
@[simp] theorem szT162 : szT Tryd.prog 162 = some 1 := by kernel_rfl
@[simp] theorem concT162 : concreteT Tryd.prog 162 = true := by kernel_rfl
@[simp] theorem zeroA162 : zeroA Tryd.prog 162 = some (.v (.nilFunc)) := by kernel_rfl
@[simp] theorem zerosT162 : zerosT Tryd.prog 162 = some [.v (.nilFunc)] := by kernel_rfl
theorem elT162 : elT Tryd.prog 162 = some (1, 8, [.nilFunc], .v (.nilFunc)) := by kernel_rfl
@[simp] theorem undT166 : undT Tryd.prog 166 = true := by kernel_rfl
@[simp] theorem aggT166 : aggT Tryd.prog 166 = false := by kernel_rfl
@[simp] theorem szT166 : szT Tryd.prog 166 = some 1 := by kernel_rfl
@[simp] theorem concT166 : concreteT Tryd.prog 166 = true := by kernel_rfl
@[simp] theorem intT166 : intT Tryd.prog 166 = some .u64 := by kernel_rfl
@[simp] theorem keyT166 : keyT Tryd.prog 166 = some (.int .u64) := by kernel_rfl
@[simp] theorem u8T166 : u8T Tryd.prog 166 = false := by kernel_rfl
@[simp] theorem zeroA166 : zeroA Tryd.prog 166 = some (.v (.int .u64 0)) := by kernel_rfl
@[simp] theorem zerosT166 : zerosT Tryd.prog 166 = some [.v (.int .u64 0)] := by kernel_rfl
theorem elT166 : elT Tryd.prog 166 = some (1, 8, [.int .u64 0], .v (.int .u64 0)) := by kernel_rfl
@[simp] theorem undT168 : undT Tryd.prog 168 = true := by kernel_rfl
@[simp] theorem aggT168 : aggT Tryd.prog 168 = false := by kernel_rfl
@[simp] theorem szT168 : szT Tryd.prog 168 = some 1 := by kernel_rfl
@[simp] theorem concT168 : concreteT Tryd.prog 168 = true := by kernel_rfl
@[simp] theorem zeroA168 : zeroA Tryd.prog 168 = some (.v (.nilFunc)) := by kernel_rfl
@[simp] theorem zerosT168 : zerosT Tryd.prog 168 = some [.v (.nilFunc)] := by kernel_rfl
theorem elT168 : elT Tryd.prog 168 = some (1, 8, [.nilFunc], .v (.nilFunc)) := by kernel_rfl
@[simp] theorem undT170 : undT Tryd.prog 170 = true := by kernel_rfl
@[simp] theorem aggT170 : aggT Tryd.prog 170 = false := by kernel_rfl
@[simp] theorem szT170 : szT Tryd.prog 170 = some 1 := by kernel_rfl
@[simp] theorem concT170 : concreteT Tryd.prog 170 = true := by kernel_rfl
@[simp] theorem zeroA170 : zeroA Tryd.prog 170 = some (.v (.pointer none)) := by kernel_rfl
@[simp] theorem zerosT170 : zerosT Tryd.prog 170 = some [.v (.pointer none)] := by kernel_rfl
theorem elT170 : elT Tryd.prog 170 = some (1, 8, [.pointer none], .v (.pointer none)) := by kernel_rfl
@[simp] theorem undT174 : undT Tryd.prog 174 = true := by kernel_rfl
@[simp] theorem aggT174 : aggT Tryd.prog 174 = false := by kernel_rfl
@[simp] theorem szT174 : szT Tryd.prog 174 = some 1 := by kernel_rfl
@[simp] theorem concT174 : concreteT Tryd.prog 174 = true := by kernel_rfl
@[simp] theorem zeroA174 : zeroA Tryd.prog 174 = some (.v (.pointer none)) := by kernel_rfl
@[simp] theorem zerosT174 : zerosT Tryd.prog 174 = some [.v (.pointer none)] := by kernel_rfl
theorem elT174 : elT Tryd.prog 174 = some (1, 8, [.pointer none], .v (.pointer none)) := by kernel_rfl
@[simp] theorem undT179 : undT Tryd.prog 179 = true := by kernel_rfl
@[simp] theorem aggT179 : aggT Tryd.prog 179 = true := by kernel_rfl
@[simp] theorem szT179 : szT Tryd.prog 179 = some 4 := by kernel_rfl
@[simp] theorem concT179 : concreteT Tryd.prog 179 = true := by kernel_rfl
@[simp] theorem zeroA179 : zeroA Tryd.prog 179 = some (.agg [.v (.pointer none), .v (.pointer none), .v (.pointer none), .v (.string ByteArray.empty)]) := by kernel_rfl
@[simp] theorem zerosT179 : zerosT Tryd.prog 179 = some [.v (.pointer none), .v (.pointer none), .v (.pointer none), .v (.string ByteArray.empty)] := by kernel_rfl
theorem elT179 : elT Tryd.prog 179 = some (4, 40, [.pointer none, .pointer none, .pointer none, .string ByteArray.empty], .agg [.v (.pointer none), .v (.pointer none), .v (.pointer none), .v (.string ByteArray.empty)]) := by kernel_rfl
theorem placesL179 : placesL Tryd.prog 179 = some ([.pointer none, .pointer none, .pointer none, .string ByteArray.empty], [(0, 1), (1, 1), (2, 1), (3, 1)]) := by kernel_rfl
@[simp] theorem bld179 (ps : List (Nat × AV)) (S : Subs) : (aBuild Tryd.prog 179 ps).run S = thenR (liveR ps S) fun ps' S => (fillA (([(0, 1), (1, 1), (2, 1), (3, 1)] : List (Nat × Nat))[·]?) [.v (.pointer none), .v (.pointer none), .v (.pointer none), .v (.string ByteArray.empty)] ps').map fun r => (.agg r, S) := build_run placesL179 ps S
@[simp] theorem fieldT179_0 : fieldT Tryd.prog 179 0 = some 0 := by kernel_rfl
@[simp] theorem fieldT179_1 : fieldT Tryd.prog 179 1 = some 1 := by kernel_rfl
@[simp] theorem fieldT179_2 : fieldT Tryd.prog 179 2 = some 2 := by kernel_rfl
@[simp] theorem fieldT179_3 : fieldT Tryd.prog 179 3 = some 3 := by kernel_rfl
@[simp] theorem undT180 : undT Tryd.prog 180 = true := by kernel_rfl
@[simp] theorem aggT180 : aggT Tryd.prog 180 = true := by kernel_rfl
@[simp] theorem szT180 : szT Tryd.prog 180 = some 0 := by kernel_rfl
@[simp] theorem concT180 : concreteT Tryd.prog 180 = true := by kernel_rfl
@[simp] theorem sliceT180 : sliceT Tryd.prog 180 = none := by kernel_rfl
@[simp] theorem arrT180 : arrT Tryd.prog 180 = some (0, 16) := by kernel_rfl
@[simp] theorem zeroA180 : zeroA Tryd.prog 180 = some (.agg []) := by kernel_rfl
@[simp] theorem zerosT180 : zerosT Tryd.prog 180 = some [] := by kernel_rfl
@[simp] theorem undT182 : undT Tryd.prog 182 = true := by kernel_rfl
@[simp] theorem aggT182 : aggT Tryd.prog 182 = true := by kernel_rfl
@[simp] theorem szT182 : szT Tryd.prog 182 = some 0 := by kernel_rfl
@[simp] theorem concT182 : concreteT Tryd.prog 182 = true := by kernel_rfl
@[simp] theorem zeroA182 : zeroA Tryd.prog 182 = some (.agg []) := by kernel_rfl
@[simp] theorem zerosT182 : zerosT Tryd.prog 182 = some [] := by kernel_rfl
theorem placesL182 : placesL Tryd.prog 182 = some ([], [(0, 0)]) := by kernel_rfl
@[simp] theorem bld182 (ps : List (Nat × AV)) (S : Subs) : (aBuild Tryd.prog 182 ps).run S = thenR (liveR ps S) fun ps' S => (fillA (([(0, 0)] : List (Nat × Nat))[·]?) [] ps').map fun r => (.agg r, S) := build_run placesL182 ps S
@[simp] theorem undT185 : undT Tryd.prog 185 = true := by kernel_rfl
@[simp] theorem aggT185 : aggT Tryd.prog 185 = false := by kernel_rfl
@[simp] theorem szT185 : szT Tryd.prog 185 = some 1 := by kernel_rfl
@[simp] theorem concT185 : concreteT Tryd.prog 185 = true := by kernel_rfl
@[simp] theorem intT185 : intT Tryd.prog 185 = some .u8 := by kernel_rfl
@[simp] theorem keyT185 : keyT Tryd.prog 185 = some (.int .u8) := by kernel_rfl
@[simp] theorem u8T185 : u8T Tryd.prog 185 = true := by kernel_rfl
@[simp] theorem zeroA185 : zeroA Tryd.prog 185 = some (.v (.int .u8 0)) := by kernel_rfl
@[simp] theorem zerosT185 : zerosT Tryd.prog 185 = some [.v (.int .u8 0)] := by kernel_rfl
theorem elT185 : elT Tryd.prog 185 = some (1, 1, [.int .u8 0], .v (.int .u8 0)) := by kernel_rfl
@[simp] theorem undT186 : undT Tryd.prog 186 = true := by kernel_rfl
@[simp] theorem aggT186 : aggT Tryd.prog 186 = false := by kernel_rfl
@[simp] theorem szT186 : szT Tryd.prog 186 = some 1 := by kernel_rfl
@[simp] theorem concT186 : concreteT Tryd.prog 186 = true := by kernel_rfl
@[simp] theorem zeroA186 : zeroA Tryd.prog 186 = some (.v (.nilFunc)) := by kernel_rfl
@[simp] theorem zerosT186 : zerosT Tryd.prog 186 = some [.v (.nilFunc)] := by kernel_rfl
theorem elT186 : elT Tryd.prog 186 = some (1, 8, [.nilFunc], .v (.nilFunc)) := by kernel_rfl
@[simp] theorem undT187 : undT Tryd.prog 187 = true := by kernel_rfl
@[simp] theorem aggT187 : aggT Tryd.prog 187 = false := by kernel_rfl
@[simp] theorem szT187 : szT Tryd.prog 187 = some 1 := by kernel_rfl
@[simp] theorem concT187 : concreteT Tryd.prog 187 = true := by kernel_rfl
@[simp] theorem zeroA187 : zeroA Tryd.prog 187 = some (.v (.pointer none)) := by kernel_rfl
@[simp] theorem zerosT187 : zerosT Tryd.prog 187 = some [.v (.pointer none)] := by kernel_rfl
theorem elT187 : elT Tryd.prog 187 = some (1, 8, [.pointer none], .v (.pointer none)) := by kernel_rfl
@[simp] theorem undT188 : undT Tryd.prog 188 = true := by kernel_rfl
@[simp] theorem aggT188 : aggT Tryd.prog 188 = false := by kernel_rfl
@[simp] theorem szT188 : szT Tryd.prog 188 = some 1 := by kernel_rfl
@[simp] theorem concT188 : concreteT Tryd.prog 188 = true := by kernel_rfl
@[simp] theorem intT188 : intT Tryd.prog 188 = some .i32 := by kernel_rfl
@[simp] theorem keyT188 : keyT Tryd.prog 188 = some (.int .i32) := by kernel_rfl
@[simp] theorem u8T188 : u8T Tryd.prog 188 = false := by kernel_rfl
@[simp] theorem zeroA188 : zeroA Tryd.prog 188 = some (.v (.int .i32 0)) := by kernel_rfl
@[simp] theorem zerosT188 : zerosT Tryd.prog 188 = some [.v (.int .i32 0)] := by kernel_rfl
theorem elT188 : elT Tryd.prog 188 = some (1, 4, [.int .i32 0], .v (.int .i32 0)) := by kernel_rfl
@[simp] theorem undT189 : undT Tryd.prog 189 = true := by kernel_rfl
@[simp] theorem aggT189 : aggT Tryd.prog 189 = false := by kernel_rfl
@[simp] theorem szT189 : szT Tryd.prog 189 = some 1 := by kernel_rfl
@[simp] theorem concT189 : concreteT Tryd.prog 189 = true := by kernel_rfl
@[simp] theorem intT189 : intT Tryd.prog 189 = some .i32 := by kernel_rfl
@[simp] theorem keyT189 : keyT Tryd.prog 189 = some (.int .i32) := by kernel_rfl
@[simp] theorem u8T189 : u8T Tryd.prog 189 = false := by kernel_rfl
@[simp] theorem zeroA189 : zeroA Tryd.prog 189 = some (.v (.int .i32 0)) := by kernel_rfl
@[simp] theorem zerosT189 : zerosT Tryd.prog 189 = some [.v (.int .i32 0)] := by kernel_rfl
theorem elT189 : elT Tryd.prog 189 = some (1, 4, [.int .i32 0], .v (.int .i32 0)) := by kernel_rfl
@[simp] theorem undT191 : undT Tryd.prog 191 = true := by kernel_rfl
@[simp] theorem aggT191 : aggT Tryd.prog 191 = true := by kernel_rfl
@[simp] theorem szT191 : szT Tryd.prog 191 = some 11 := by kernel_rfl
@[simp] theorem concT191 : concreteT Tryd.prog 191 = true := by kernel_rfl
@[simp] theorem zeroA191 : zeroA Tryd.prog 191 = some (.agg [.v (.int .u64 0), .v (.int .u64 0), .v (.int .u32 0), .v (.int .u8 0), .v (.int .u8 0), .v (.int .u8 0), .v (.int .u8 0), .v (.nilFunc), .v (.pointer none), .v (.int .i32 0), .v (.int .i32 0)]) := by kernel_rfl
@[simp] theorem zerosT191 : zerosT Tryd.prog 191 = some [.v (.int .u64 0), .v (.int .u64 0), .v (.int .u32 0), .v (.int .u8 0), .v (.int .u8 0), .v (.int .u8 0), .v (.int .u8 0), .v (.nilFunc), .v (.pointer none), .v (.int .i32 0), .v (.int .i32 0)] := by kernel_rfl
theorem elT191 : elT Tryd.prog 191 = some (11, 48, [.int .u64 0, .int .u64 0, .int .u32 0, .int .u8 0, .int .u8 0, .int .u8 0, .int .u8 0, .nilFunc, .pointer none, .int .i32 0, .int .i32 0], .agg [.v (.int .u64 0), .v (.int .u64 0), .v (.int .u32 0), .v (.int .u8 0), .v (.int .u8 0), .v (.int .u8 0), .v (.int .u8 0), .v (.nilFunc), .v (.pointer none), .v (.int .i32 0), .v (.int .i32 0)]) := by kernel_rfl
theorem placesL191 : placesL Tryd.prog 191 = some ([.int .u64 0, .int .u64 0, .int .u32 0, .int .u8 0, .int .u8 0, .int .u8 0, .int .u8 0, .nilFunc, .pointer none, .int .i32 0, .int .i32 0], [(0, 1), (1, 1), (2, 1), (3, 1), (4, 1), (5, 1), (6, 1), (7, 1), (8, 1), (9, 1), (10, 1)]) := by kernel_rfl
@[simp] theorem bld191 (ps : List (Nat × AV)) (S : Subs) : (aBuild Tryd.prog 191 ps).run S = thenR (liveR ps S) fun ps' S => (fillA (([(0, 1), (1, 1), (2, 1), (3, 1), (4, 1), (5, 1), (6, 1), (7, 1), (8, 1), (9, 1), (10, 1)] : List (Nat × Nat))[·]?) [.v (.int .u64 0), .v (.int .u64 0), .v (.int .u32 0), .v (.int .u8 0), .v (.int .u8 0), .v (.int .u8 0), .v (.int .u8 0), .v (.nilFunc), .v (.pointer none), .v (.int .i32 0), .v (.int .i32 0)] ps').map fun r => (.agg r, S) := build_run placesL191 ps S
@[simp] theorem fieldT191_0 : fieldT Tryd.prog 191 0 = some 0 := by kernel_rfl
@[simp] theorem fieldT191_1 : fieldT Tryd.prog 191 1 = some 1 := by kernel_rfl
@[simp] theorem fieldT191_2 : fieldT Tryd.prog 191 2 = some 2 := by kernel_rfl
@[simp] theorem fieldT191_3 : fieldT Tryd.prog 191 3 = some 3 := by kernel_rfl
@[simp] theorem fieldT191_4 : fieldT Tryd.prog 191 4 = some 4 := by kernel_rfl
@[simp] theorem fieldT191_5 : fieldT Tryd.prog 191 5 = some 5 := by kernel_rfl
@[simp] theorem fieldT191_6 : fieldT Tryd.prog 191 6 = some 6 := by kernel_rfl
@[simp] theorem fieldT191_7 : fieldT Tryd.prog 191 7 = some 7 := by kernel_rfl
@[simp] theorem fieldT191_8 : fieldT Tryd.prog 191 8 = some 8 := by kernel_rfl
@[simp] theorem fieldT191_9 : fieldT Tryd.prog 191 9 = some 9 := by kernel_rfl
@[simp] theorem fieldT191_10 : fieldT Tryd.prog 191 10 = some 10 := by kernel_rfl
@[simp] theorem undT193 : undT Tryd.prog 193 = true := by kernel_rfl
@[simp] theorem aggT193 : aggT Tryd.prog 193 = true := by kernel_rfl
@[simp] theorem szT193 : szT Tryd.prog 193 = some 5 := by kernel_rfl
@[simp] theorem concT193 : concreteT Tryd.prog 193 = true := by kernel_rfl
@[simp] theorem zeroA193 : zeroA Tryd.prog 193 = some (.agg [.v (.int .i64 0), .v (.int .i64 0), .v (.int .i64 0), .v (.int .u32 0), .v (.string ByteArray.empty)]) := by kernel_rfl
@[simp] theorem zerosT193 : zerosT Tryd.prog 193 = some [.v (.int .i64 0), .v (.int .i64 0), .v (.int .i64 0), .v (.int .u32 0), .v (.string ByteArray.empty)] := by kernel_rfl
theorem elT193 : elT Tryd.prog 193 = some (5, 48, [.int .i64 0, .int .i64 0, .int .i64 0, .int .u32 0, .string ByteArray.empty], .agg [.v (.int .i64 0), .v (.int .i64 0), .v (.int .i64 0), .v (.int .u32 0), .v (.string ByteArray.empty)]) := by kernel_rfl
theorem placesL193 : placesL Tryd.prog 193 = some ([.int .i64 0, .int .i64 0, .int .i64 0, .int .u32 0, .string ByteArray.empty], [(0, 1), (1, 1), (2, 1), (3, 1), (4, 1)]) := by kernel_rfl
@[simp] theorem bld193 (ps : List (Nat × AV)) (S : Subs) : (aBuild Tryd.prog 193 ps).run S = thenR (liveR ps S) fun ps' S => (fillA (([(0, 1), (1, 1), (2, 1), (3, 1), (4, 1)] : List (Nat × Nat))[·]?) [.v (.int .i64 0), .v (.int .i64 0), .v (.int .i64 0), .v (.int .u32 0), .v (.string ByteArray.empty)] ps').map fun r => (.agg r, S) := build_run placesL193 ps S
@[simp] theorem fieldT193_0 : fieldT Tryd.prog 193 0 = some 0 := by kernel_rfl
@[simp] theorem fieldT193_1 : fieldT Tryd.prog 193 1 = some 1 := by kernel_rfl
@[simp] theorem fieldT193_2 : fieldT Tryd.prog 193 2 = some 2 := by kernel_rfl
@[simp] theorem fieldT193_3 : fieldT Tryd.prog 193 3 = some 3 := by kernel_rfl
@[simp] theorem fieldT193_4 : fieldT Tryd.prog 193 4 = some 4 := by kernel_rfl
@[simp] theorem bs22 (S : Subs) (d len : Nat) (is : List Nat) (xs : List AV) : (aBuildSlice Tryd.prog d 22 len is xs).run S = if len * 15 ≤ 16777216 then thenR (mapR (pub 4) xs S) fun ys S => (setAll 15 (List.replicate len (.agg [.v (.int .i64 0), .v (.int .i64 0), .v (.int .i64 0), .v (.string ByteArray.empty), .v (.int .i64 0), .v (.int .i64 0), .v (.int .i64 0), .v (.int .i64 0), .v (.int .i32 0), .v (.string ByteArray.empty), .v (.int .i64 0), .v (.slice none 0 0), .v (.int .u32 0), .v (.bool false), .v (.bool false)])) (is.zip ys)).bind fun el => (newArr d false 15 42 el).run S else none := buildSlice_run Tryd.prog S 22 d sliceT22 elT42 len is xs
@[simp] theorem ap22 (S : Subs) (d : Nat) (s x : AV) : (aAppend Tryd.prog d 22 s x).run S = thenR (elemsR 15 x S) fun news S => growA d 15 136 42 s news S := append_run Tryd.prog S 22 d sliceT22 elT42 s x
@[simp] theorem ms22 (S : Subs) (d : Nat) (k k2 : IntKind) (n m : Int) : (aMakeSlice Tryd.prog d 22 (.v (.int k n)) (.v (.int k2 m))).run S = if 0 ≤ n ∧ n ≤ m ∧ m.toNat * (136 + 1) ≤ 140737488355328 then (newArr d false 15 42 (List.replicate n.toNat (.agg [.v (.int .i64 0), .v (.int .i64 0), .v (.int .i64 0), .v (.string ByteArray.empty), .v (.int .i64 0), .v (.int .i64 0), .v (.int .i64 0), .v (.int .i64 0), .v (.int .i32 0), .v (.string ByteArray.empty), .v (.int .i64 0), .v (.slice none 0 0), .v (.int .u32 0), .v (.bool false), .v (.bool false)]))).run S else none := makeSlice_run Tryd.prog S 22 d sliceT22 elT42 k k2 n m
@[simp] theorem bs23 (S : Subs) (d len : Nat) (is : List Nat) (xs : List AV) : (aBuildSlice Tryd.prog d 23 len is xs).run S = if len * 3 ≤ 16777216 then thenR (mapR (pub 4) xs S) fun ys S => (setAll 3 (List.replicate len (.agg [.v (.string ByteArray.empty), .v (.int .u32 0), .v (.int .i64 0)])) (is.zip ys)).bind fun el => (newArr d false 3 72 el).run S else none := buildSlice_run Tryd.prog S 23 d sliceT23 elT72 len is xs
@[simp] theorem ap23 (S : Subs) (d : Nat) (s x : AV) : (aAppend Tryd.prog d 23 s x).run S = thenR (elemsR 3 x S) fun news S => growA d 3 32 72 s news S := append_run Tryd.prog S 23 d sliceT23 elT72 s x
@[simp] theorem ms23 (S : Subs) (d : Nat) (k k2 : IntKind) (n m : Int) : (aMakeSlice Tryd.prog d 23 (.v (.int k n)) (.v (.int k2 m))).run S = if 0 ≤ n ∧ n ≤ m ∧ m.toNat * (32 + 1) ≤ 140737488355328 then (newArr d false 3 72 (List.replicate n.toNat (.agg [.v (.string ByteArray.empty), .v (.int .u32 0), .v (.int .i64 0)]))).run S else none := makeSlice_run Tryd.prog S 23 d sliceT23 elT72 k k2 n m
@[simp] theorem bs27 (S : Subs) (d len : Nat) (is : List Nat) (xs : List AV) : (aBuildSlice Tryd.prog d 27 len is xs).run S = if len * 1 ≤ 16777216 then thenR (mapR (pub 4) xs S) fun ys S => (setAll 1 (List.replicate len (.v (.int .i64 0))) (is.zip ys)).bind fun el => (newArr d false 1 3 el).run S else none := buildSlice_run Tryd.prog S 27 d sliceT27 elT3 len is xs
@[simp] theorem ap27 (S : Subs) (d : Nat) (s x : AV) : (aAppend Tryd.prog d 27 s x).run S = thenR (elemsR 1 x S) fun news S => growA d 1 8 3 s news S := append_run Tryd.prog S 27 d sliceT27 elT3 s x
@[simp] theorem ms27 (S : Subs) (d : Nat) (k k2 : IntKind) (n m : Int) : (aMakeSlice Tryd.prog d 27 (.v (.int k n)) (.v (.int k2 m))).run S = if 0 ≤ n ∧ n ≤ m ∧ m.toNat * (8 + 1) ≤ 140737488355328 then (newArr d false 1 3 (List.replicate n.toNat (.v (.int .i64 0)))).run S else none := makeSlice_run Tryd.prog S 27 d sliceT27 elT3 k k2 n m
@[simp] theorem bs28 (S : Subs) (d len : Nat) (is : List Nat) (xs : List AV) : (aBuildSlice Tryd.prog d 28 len is xs).run S = if len * 1 ≤ 16777216 then thenR (mapR (pub 4) xs S) fun ys S => (setAll 1 (List.replicate len (.v (.int .u32 0))) (is.zip ys)).bind fun el => (newArr d false 1 24 el).run S else none := buildSlice_run Tryd.prog S 28 d sliceT28 elT24 len is xs
@[simp] theorem ap28 (S : Subs) (d : Nat) (s x : AV) : (aAppend Tryd.prog d 28 s x).run S = thenR (elemsR 1 x S) fun news S => growA d 1 4 24 s news S := append_run Tryd.prog S 28 d sliceT28 elT24 s x
@[simp] theorem ms28 (S : Subs) (d : Nat) (k k2 : IntKind) (n m : Int) : (aMakeSlice Tryd.prog d 28 (.v (.int k n)) (.v (.int k2 m))).run S = if 0 ≤ n ∧ n ≤ m ∧ m.toNat * (4 + 1) ≤ 140737488355328 then (newArr d false 1 24 (List.replicate n.toNat (.v (.int .u32 0)))).run S else none := makeSlice_run Tryd.prog S 28 d sliceT28 elT24 k k2 n m
@[simp] theorem bs29 (S : Subs) (d len : Nat) (is : List Nat) (xs : List AV) : (aBuildSlice Tryd.prog d 29 len is xs).run S = if len * 3 ≤ 16777216 then thenR (mapR (pub 4) xs S) fun ys S => (setAll 3 (List.replicate len (.agg [.v (.string ByteArray.empty), .v (.int .u32 0), .v (.int .i64 0)])) (is.zip ys)).bind fun el => (newArr d false 3 74 el).run S else none := buildSlice_run Tryd.prog S 29 d sliceT29 elT74 len is xs
@[simp] theorem ap29 (S : Subs) (d : Nat) (s x : AV) : (aAppend Tryd.prog d 29 s x).run S = thenR (elemsR 3 x S) fun news S => growA d 3 32 74 s news S := append_run Tryd.prog S 29 d sliceT29 elT74 s x
@[simp] theorem ms29 (S : Subs) (d : Nat) (k k2 : IntKind) (n m : Int) : (aMakeSlice Tryd.prog d 29 (.v (.int k n)) (.v (.int k2 m))).run S = if 0 ≤ n ∧ n ≤ m ∧ m.toNat * (32 + 1) ≤ 140737488355328 then (newArr d false 3 74 (List.replicate n.toNat (.agg [.v (.string ByteArray.empty), .v (.int .u32 0), .v (.int .i64 0)]))).run S else none := makeSlice_run Tryd.prog S 29 d sliceT29 elT74 k k2 n m
@[simp] theorem bs40 (S : Subs) (d len : Nat) (is : List Nat) (xs : List AV) : (aBuildSlice Tryd.prog d 40 len is xs).run S = if len * 5 ≤ 16777216 then thenR (mapR (pub 4) xs S) fun ys S => (setAll 5 (List.replicate len (.agg [.v (.int .i64 0), .v (.int .i64 0), .v (.int .i64 0), .v (.int .u32 0), .v (.string ByteArray.empty)])) (is.zip ys)).bind fun el => (newArr d false 5 193 el).run S else none := buildSlice_run Tryd.prog S 40 d sliceT40 elT193 len is xs
@[simp] theorem ap40 (S : Subs) (d : Nat) (s x : AV) : (aAppend Tryd.prog d 40 s x).run S = thenR (elemsR 5 x S) fun news S => growA d 5 48 193 s news S := append_run Tryd.prog S 40 d sliceT40 elT193 s x
@[simp] theorem ms40 (S : Subs) (d : Nat) (k k2 : IntKind) (n m : Int) : (aMakeSlice Tryd.prog d 40 (.v (.int k n)) (.v (.int k2 m))).run S = if 0 ≤ n ∧ n ≤ m ∧ m.toNat * (48 + 1) ≤ 140737488355328 then (newArr d false 5 193 (List.replicate n.toNat (.agg [.v (.int .i64 0), .v (.int .i64 0), .v (.int .i64 0), .v (.int .u32 0), .v (.string ByteArray.empty)]))).run S else none := makeSlice_run Tryd.prog S 40 d sliceT40 elT193 k k2 n m
@[simp] theorem bs62 (S : Subs) (d len : Nat) (is : List Nat) (xs : List AV) : (aBuildSlice Tryd.prog d 62 len is xs).run S = if len * 3 ≤ 16777216 then thenR (mapR (pub 4) xs S) fun ys S => (setAll 3 (List.replicate len (.agg [.v (.int .i64 0), .v (.int .i64 0), .v (.int .u32 0)])) (is.zip ys)).bind fun el => (newArr d false 3 122 el).run S else none := buildSlice_run Tryd.prog S 62 d sliceT62 elT122 len is xs
@[simp] theorem ap62 (S : Subs) (d : Nat) (s x : AV) : (aAppend Tryd.prog d 62 s x).run S = thenR (elemsR 3 x S) fun news S => growA d 3 24 122 s news S := append_run Tryd.prog S 62 d sliceT62 elT122 s x
@[simp] theorem ms62 (S : Subs) (d : Nat) (k k2 : IntKind) (n m : Int) : (aMakeSlice Tryd.prog d 62 (.v (.int k n)) (.v (.int k2 m))).run S = if 0 ≤ n ∧ n ≤ m ∧ m.toNat * (24 + 1) ≤ 140737488355328 then (newArr d false 3 122 (List.replicate n.toNat (.agg [.v (.int .i64 0), .v (.int .i64 0), .v (.int .u32 0)]))).run S else none := makeSlice_run Tryd.prog S 62 d sliceT62 elT122 k k2 n m
@[simp] theorem bs80 (S : Subs) (d len : Nat) (is : List Nat) (xs : List AV) : (aBuildSlice Tryd.prog d 80 len is xs).run S = if len * 1 ≤ 16777216 then thenR (mapR (pub 4) xs S) fun ys S => (setAll 1 (List.replicate len (.v (.int .u8 0))) (is.zip ys)).bind fun el => (newArr d false 1 5 el).run S else none := buildSlice_run Tryd.prog S 80 d sliceT80 elT5 len is xs
@[simp] theorem ap80 (S : Subs) (d : Nat) (s x : AV) : (aAppend Tryd.prog d 80 s x).run S = thenR (elemsR 1 x S) fun news S => growA d 1 1 5 s news S := append_run Tryd.prog S 80 d sliceT80 elT5 s x
@[simp] theorem ms80 (S : Subs) (d : Nat) (k k2 : IntKind) (n m : Int) : (aMakeSlice Tryd.prog d 80 (.v (.int k n)) (.v (.int k2 m))).run S = if 0 ≤ n ∧ n ≤ m ∧ m.toNat * (1 + 1) ≤ 140737488355328 then (newArr d false 1 5 (List.replicate n.toNat (.v (.int .u8 0)))).run S else none := makeSlice_run Tryd.prog S 80 d sliceT80 elT5 k k2 n m
@[simp] theorem bstr80_9 (S : Subs) (x : AV) : (aBytesStr Tryd.prog 80 9 x).run S = thenR (elemsR 1 x S) fun l S => (bytesA l).map fun ns => (.v (.string (strOf ns)), S) := bytesStr_run Tryd.prog S sliceT80 u8T5 stringT9 x
@[simp] theorem bstr80_10 (S : Subs) (x : AV) : (aBytesStr Tryd.prog 80 10 x).run S = thenR (elemsR 1 x S) fun l S => (bytesA l).map fun ns => (.v (.string (strOf ns)), S) := bytesStr_run Tryd.prog S sliceT80 u8T5 stringT10 x
@[simp] theorem bstr80_11 (S : Subs) (x : AV) : (aBytesStr Tryd.prog 80 11 x).run S = thenR (elemsR 1 x S) fun l S => (bytesA l).map fun ns => (.v (.string (strOf ns)), S) := bytesStr_run Tryd.prog S sliceT80 u8T5 stringT11 x
end Go.Proofs.YtmekfllddifglaaDoor.AM
