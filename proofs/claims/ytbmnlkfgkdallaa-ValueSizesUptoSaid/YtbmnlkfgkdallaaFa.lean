/-
  Facts of the seat's types, printed by a program: each is proved by reckoning.
-/
import Derived.Test.YtbmnlkfgkdallaaLq
import Derived.Test.YtbmnlkfgkdallaaProg
namespace Go.Proofs.Ytbmnlkfgkdallaa.Lift
set_option linter.unusedVariables false
open Go

theorem mixed : Try.prog.follows .mixedOrders = true := by kernel_rfl
-- 0: ()
theorem lay0 : layT Try.prog 0 = some (false, 1) := by kernel_rfl
theorem con0 : concT Try.prog 0 = true := by kernel_rfl
-- 1: func()
theorem lay1 : layT Try.prog 1 = some (false, 1) := by kernel_rfl
theorem zer1 : zeroT Try.prog 1 = some [.v (.prim .nilFunc)] := by kernel_rfl
theorem con1 : concT Try.prog 1 = true := by kernel_rfl
-- 2: int64
theorem lay2 : layT Try.prog 2 = some (false, 1) := by kernel_rfl
theorem zer2 : zeroT Try.prog 2 = some [.v (.prim (.int .i64 (0)))] := by kernel_rfl
theorem con2 : concT Try.prog 2 = true := by kernel_rfl
theorem int2 : intT Try.prog 2 = some .i64 := by kernel_rfl
-- 3: int
theorem lay3 : layT Try.prog 3 = some (false, 1) := by kernel_rfl
theorem zer3 : zeroT Try.prog 3 = some [.v (.prim (.int .i64 (0)))] := by kernel_rfl
theorem con3 : concT Try.prog 3 = true := by kernel_rfl
theorem int3 : intT Try.prog 3 = some .i64 := by kernel_rfl
-- 4: bool
theorem lay4 : layT Try.prog 4 = some (false, 1) := by kernel_rfl
theorem zer4 : zeroT Try.prog 4 = some [.v (.prim (.bool false))] := by kernel_rfl
theorem boo4 : boolT Try.prog 4 = true := by kernel_rfl
theorem con4 : concT Try.prog 4 = true := by kernel_rfl
-- 5: uint8
theorem lay5 : layT Try.prog 5 = some (false, 1) := by kernel_rfl
theorem zer5 : zeroT Try.prog 5 = some [.v (.prim (.int .u8 (0)))] := by kernel_rfl
theorem con5 : concT Try.prog 5 = true := by kernel_rfl
theorem int5 : intT Try.prog 5 = some .u8 := by kernel_rfl
-- 6: abi.BoundsErrorCode
theorem lay6 : layT Try.prog 6 = some (false, 1) := by kernel_rfl
theorem zer6 : zeroT Try.prog 6 = some [.v (.prim (.int .u8 (0)))] := by kernel_rfl
theorem con6 : concT Try.prog 6 = true := by kernel_rfl
theorem int6 : intT Try.prog 6 = some .u8 := by kernel_rfl
-- 7: struct { x int64; y int; signed bool; code abi.BoundsErrorCode }
theorem lay7 : layT Try.prog 7 = some (true, 4) := by kernel_rfl
theorem zer7 : zeroT Try.prog 7 = some [.v (.prim (.int .i64 (0))), .v (.prim (.int .i64 (0))), .v (.prim (.bool false)), .v (.prim (.int .u8 (0)))] := by kernel_rfl
theorem pla7 : placesT Try.prog 7 = some [(0, 1), (1, 1), (2, 1), (3, 1)] := by kernel_rfl
theorem con7 : concT Try.prog 7 = true := by kernel_rfl
theorem fld7_0 : fieldT Try.prog 7 0 = some (false, 0, 1) := by kernel_rfl
theorem fld7_1 : fieldT Try.prog 7 1 = some (false, 1, 1) := by kernel_rfl
theorem fld7_2 : fieldT Try.prog 7 2 = some (false, 2, 1) := by kernel_rfl
theorem fld7_3 : fieldT Try.prog 7 3 = some (false, 3, 1) := by kernel_rfl
-- 8: runtime.boundsError
theorem lay8 : layT Try.prog 8 = some (true, 4) := by kernel_rfl
theorem zer8 : zeroT Try.prog 8 = some [.v (.prim (.int .i64 (0))), .v (.prim (.int .i64 (0))), .v (.prim (.bool false)), .v (.prim (.int .u8 (0)))] := by kernel_rfl
theorem pla8 : placesT Try.prog 8 = some [(0, 1), (1, 1), (2, 1), (3, 1)] := by kernel_rfl
theorem con8 : concT Try.prog 8 = true := by kernel_rfl
theorem fld8_0 : fieldT Try.prog 8 0 = some (false, 0, 1) := by kernel_rfl
theorem fld8_1 : fieldT Try.prog 8 1 = some (false, 1, 1) := by kernel_rfl
theorem fld8_2 : fieldT Try.prog 8 2 = some (false, 2, 1) := by kernel_rfl
theorem fld8_3 : fieldT Try.prog 8 3 = some (false, 3, 1) := by kernel_rfl
-- 9: string
theorem lay9 : layT Try.prog 9 = some (false, 1) := by kernel_rfl
theorem zer9 : zeroT Try.prog 9 = some [.v (.prim (.string ByteArray.empty))] := by kernel_rfl
theorem con9 : concT Try.prog 9 = true := by kernel_rfl
-- 10: runtime.errorString
theorem lay10 : layT Try.prog 10 = some (false, 1) := by kernel_rfl
theorem zer10 : zeroT Try.prog 10 = some [.v (.prim (.string ByteArray.empty))] := by kernel_rfl
theorem con10 : concT Try.prog 10 = true := by kernel_rfl
-- 11: runtime.plainError
theorem lay11 : layT Try.prog 11 = some (false, 1) := by kernel_rfl
theorem zer11 : zeroT Try.prog 11 = some [.v (.prim (.string ByteArray.empty))] := by kernel_rfl
theorem con11 : concT Try.prog 11 = true := by kernel_rfl
-- 12: uintptr
theorem lay12 : layT Try.prog 12 = some (false, 1) := by kernel_rfl
theorem zer12 : zeroT Try.prog 12 = some [.v (.prim (.int .u64 (0)))] := by kernel_rfl
theorem con12 : concT Try.prog 12 = true := by kernel_rfl
theorem int12 : intT Try.prog 12 = some .u64 := by kernel_rfl
-- 13: struct { msg string; addr uintptr }
theorem lay13 : layT Try.prog 13 = some (true, 2) := by kernel_rfl
theorem zer13 : zeroT Try.prog 13 = some [.v (.prim (.string ByteArray.empty)), .v (.prim (.int .u64 (0)))] := by kernel_rfl
theorem pla13 : placesT Try.prog 13 = some [(0, 1), (1, 1)] := by kernel_rfl
theorem con13 : concT Try.prog 13 = true := by kernel_rfl
theorem fld13_0 : fieldT Try.prog 13 0 = some (false, 0, 1) := by kernel_rfl
theorem fld13_1 : fieldT Try.prog 13 1 = some (false, 1, 1) := by kernel_rfl
-- 14: runtime.errorAddressString
theorem lay14 : layT Try.prog 14 = some (true, 2) := by kernel_rfl
theorem zer14 : zeroT Try.prog 14 = some [.v (.prim (.string ByteArray.empty)), .v (.prim (.int .u64 (0)))] := by kernel_rfl
theorem pla14 : placesT Try.prog 14 = some [(0, 1), (1, 1)] := by kernel_rfl
theorem con14 : concT Try.prog 14 = true := by kernel_rfl
theorem fld14_0 : fieldT Try.prog 14 0 = some (false, 0, 1) := by kernel_rfl
theorem fld14_1 : fieldT Try.prog 14 1 = some (false, 1, 1) := by kernel_rfl
-- 15: *runtime.TypeAssertionError
theorem lay15 : layT Try.prog 15 = some (false, 1) := by kernel_rfl
theorem zer15 : zeroT Try.prog 15 = some [.v (.prim (.pointer none))] := by kernel_rfl
theorem con15 : concT Try.prog 15 = true := by kernel_rfl
-- 16: *runtime.PanicNilError
theorem lay16 : layT Try.prog 16 = some (false, 1) := by kernel_rfl
theorem zer16 : zeroT Try.prog 16 = some [.v (.prim (.pointer none))] := by kernel_rfl
theorem con16 : concT Try.prog 16 = true := by kernel_rfl
-- 17: *abi.Type
theorem lay17 : layT Try.prog 17 = some (false, 1) := by kernel_rfl
theorem zer17 : zeroT Try.prog 17 = some [.v (.prim (.pointer none))] := by kernel_rfl
theorem con17 : concT Try.prog 17 = true := by kernel_rfl
-- 18: struct { typ *abi.Type }
theorem lay18 : layT Try.prog 18 = some (true, 1) := by kernel_rfl
theorem zer18 : zeroT Try.prog 18 = some [.v (.prim (.pointer none))] := by kernel_rfl
theorem pla18 : placesT Try.prog 18 = some [(0, 1)] := by kernel_rfl
theorem con18 : concT Try.prog 18 = true := by kernel_rfl
theorem fld18_0 : fieldT Try.prog 18 0 = some (false, 0, 1) := by kernel_rfl
-- 19: maps.unhashableTypeError
theorem lay19 : layT Try.prog 19 = some (true, 1) := by kernel_rfl
theorem zer19 : zeroT Try.prog 19 = some [.v (.prim (.pointer none))] := by kernel_rfl
theorem pla19 : placesT Try.prog 19 = some [(0, 1)] := by kernel_rfl
theorem con19 : concT Try.prog 19 = true := by kernel_rfl
theorem fld19_0 : fieldT Try.prog 19 0 = some (false, 0, 1) := by kernel_rfl
-- 20: interface {}
theorem lay20 : layT Try.prog 20 = some (false, 1) := by kernel_rfl
theorem zer20 : zeroT Try.prog 20 = some [.v (.prim .nilIface)] := by kernel_rfl
-- 21: int32
theorem lay21 : layT Try.prog 21 = some (false, 1) := by kernel_rfl
theorem zer21 : zeroT Try.prog 21 = some [.v (.prim (.int .i32 (0)))] := by kernel_rfl
theorem con21 : concT Try.prog 21 = true := by kernel_rfl
theorem int21 : intT Try.prog 21 = some .i32 := by kernel_rfl
-- 22: []int
theorem lay22 : layT Try.prog 22 = some (false, 1) := by kernel_rfl
theorem zer22 : zeroT Try.prog 22 = some [.own 0 []] := by kernel_rfl
theorem ele22 : elemT Try.prog 22 = some 1 := by kernel_rfl
theorem elz22 : elemZ Try.prog 22 = some (1, 8) := by kernel_rfl
theorem con22 : concT Try.prog 22 = true := by kernel_rfl
-- 23: func() bool
theorem lay23 : layT Try.prog 23 = some (false, 1) := by kernel_rfl
theorem zer23 : zeroT Try.prog 23 = some [.v (.prim .nilFunc)] := by kernel_rfl
theorem con23 : concT Try.prog 23 = true := by kernel_rfl
-- 24: func([]int) bool
theorem lay24 : layT Try.prog 24 = some (false, 1) := by kernel_rfl
theorem zer24 : zeroT Try.prog 24 = some [.v (.prim .nilFunc)] := by kernel_rfl
theorem con24 : concT Try.prog 24 = true := by kernel_rfl
-- 25: *proofprogramsmake.Deck
theorem lay25 : layT Try.prog 25 = some (false, 1) := by kernel_rfl
theorem zer25 : zeroT Try.prog 25 = some [.v (.prim (.pointer none))] := by kernel_rfl
theorem con25 : concT Try.prog 25 = true := by kernel_rfl
-- 26: func([]int) *proofprogramsmake.Deck
theorem lay26 : layT Try.prog 26 = some (false, 1) := by kernel_rfl
theorem zer26 : zeroT Try.prog 26 = some [.v (.prim .nilFunc)] := by kernel_rfl
theorem con26 : concT Try.prog 26 = true := by kernel_rfl
-- 27: []api.Value
theorem lay27 : layT Try.prog 27 = some (false, 1) := by kernel_rfl
theorem zer27 : zeroT Try.prog 27 = some [.own 0 []] := by kernel_rfl
theorem ele27 : elemT Try.prog 27 = some 4 := by kernel_rfl
theorem elz27 : elemZ Try.prog 27 = some (4, 64) := by kernel_rfl
theorem con27 : concT Try.prog 27 = true := by kernel_rfl
-- 28: struct { Kind int; Num int; List []int; Args []api.Value }
theorem lay28 : layT Try.prog 28 = some (true, 4) := by kernel_rfl
theorem zer28 : zeroT Try.prog 28 = some [.v (.prim (.int .i64 (0))), .v (.prim (.int .i64 (0))), .own 0 [], .own 0 []] := by kernel_rfl
theorem pla28 : placesT Try.prog 28 = some [(0, 1), (1, 1), (2, 1), (3, 1)] := by kernel_rfl
theorem con28 : concT Try.prog 28 = true := by kernel_rfl
theorem fld28_0 : fieldT Try.prog 28 0 = some (false, 0, 1) := by kernel_rfl
theorem fld28_1 : fieldT Try.prog 28 1 = some (false, 1, 1) := by kernel_rfl
theorem fld28_2 : fieldT Try.prog 28 2 = some (false, 2, 1) := by kernel_rfl
theorem fld28_3 : fieldT Try.prog 28 3 = some (false, 3, 1) := by kernel_rfl
-- 29: api.Value
theorem lay29 : layT Try.prog 29 = some (true, 4) := by kernel_rfl
theorem zer29 : zeroT Try.prog 29 = some [.v (.prim (.int .i64 (0))), .v (.prim (.int .i64 (0))), .own 0 [], .own 0 []] := by kernel_rfl
theorem pla29 : placesT Try.prog 29 = some [(0, 1), (1, 1), (2, 1), (3, 1)] := by kernel_rfl
theorem con29 : concT Try.prog 29 = true := by kernel_rfl
theorem fld29_0 : fieldT Try.prog 29 0 = some (false, 0, 1) := by kernel_rfl
theorem fld29_1 : fieldT Try.prog 29 1 = some (false, 1, 1) := by kernel_rfl
theorem fld29_2 : fieldT Try.prog 29 2 = some (false, 2, 1) := by kernel_rfl
theorem fld29_3 : fieldT Try.prog 29 3 = some (false, 3, 1) := by kernel_rfl
-- 30: func(*proofprogramsmake.Deck, api.Type) api.Value
theorem lay30 : layT Try.prog 30 = some (false, 1) := by kernel_rfl
theorem zer30 : zeroT Try.prog 30 = some [.v (.prim .nilFunc)] := by kernel_rfl
theorem con30 : concT Try.prog 30 = true := by kernel_rfl
-- 31: []api.Type
theorem lay31 : layT Try.prog 31 = some (false, 1) := by kernel_rfl
theorem zer31 : zeroT Try.prog 31 = some [.own 0 []] := by kernel_rfl
theorem ele31 : elemT Try.prog 31 = some 2 := by kernel_rfl
theorem elz31 : elemZ Try.prog 31 = some (2, 32) := by kernel_rfl
theorem con31 : concT Try.prog 31 = true := by kernel_rfl
-- 32: struct { Kind int; Args []api.Type }
theorem lay32 : layT Try.prog 32 = some (true, 2) := by kernel_rfl
theorem zer32 : zeroT Try.prog 32 = some [.v (.prim (.int .i64 (0))), .own 0 []] := by kernel_rfl
theorem pla32 : placesT Try.prog 32 = some [(0, 1), (1, 1)] := by kernel_rfl
theorem con32 : concT Try.prog 32 = true := by kernel_rfl
theorem fld32_0 : fieldT Try.prog 32 0 = some (false, 0, 1) := by kernel_rfl
theorem fld32_1 : fieldT Try.prog 32 1 = some (false, 1, 1) := by kernel_rfl
-- 33: api.Type
theorem lay33 : layT Try.prog 33 = some (true, 2) := by kernel_rfl
theorem zer33 : zeroT Try.prog 33 = some [.v (.prim (.int .i64 (0))), .own 0 []] := by kernel_rfl
theorem pla33 : placesT Try.prog 33 = some [(0, 1), (1, 1)] := by kernel_rfl
theorem con33 : concT Try.prog 33 = true := by kernel_rfl
theorem fld33_0 : fieldT Try.prog 33 0 = some (false, 0, 1) := by kernel_rfl
theorem fld33_1 : fieldT Try.prog 33 1 = some (false, 1, 1) := by kernel_rfl
-- 34: func(*proofprogramsmake.Deck) api.Type
theorem lay34 : layT Try.prog 34 = some (false, 1) := by kernel_rfl
theorem zer34 : zeroT Try.prog 34 = some [.v (.prim .nilFunc)] := by kernel_rfl
theorem con34 : concT Try.prog 34 = true := by kernel_rfl
-- 35: []api.Term
theorem lay35 : layT Try.prog 35 = some (false, 1) := by kernel_rfl
theorem zer35 : zeroT Try.prog 35 = some [.own 0 []] := by kernel_rfl
theorem ele35 : elemT Try.prog 35 = some 5 := by kernel_rfl
theorem elz35 : elemZ Try.prog 35 = some (5, 72) := by kernel_rfl
theorem con35 : concT Try.prog 35 = true := by kernel_rfl
-- 36: struct { Kind int; Index int; Type api.Type; Args []api.Term }
theorem lay36 : layT Try.prog 36 = some (true, 5) := by kernel_rfl
theorem zer36 : zeroT Try.prog 36 = some [.v (.prim (.int .i64 (0))), .v (.prim (.int .i64 (0))), .v (.prim (.int .i64 (0))), .own 0 [], .own 0 []] := by kernel_rfl
theorem pla36 : placesT Try.prog 36 = some [(0, 1), (1, 1), (2, 2), (4, 1)] := by kernel_rfl
theorem con36 : concT Try.prog 36 = true := by kernel_rfl
theorem fld36_0 : fieldT Try.prog 36 0 = some (false, 0, 1) := by kernel_rfl
theorem fld36_1 : fieldT Try.prog 36 1 = some (false, 1, 1) := by kernel_rfl
theorem fld36_2 : fieldT Try.prog 36 2 = some (true, 2, 2) := by kernel_rfl
theorem fld36_3 : fieldT Try.prog 36 3 = some (false, 4, 1) := by kernel_rfl
-- 37: api.Term
theorem lay37 : layT Try.prog 37 = some (true, 5) := by kernel_rfl
theorem zer37 : zeroT Try.prog 37 = some [.v (.prim (.int .i64 (0))), .v (.prim (.int .i64 (0))), .v (.prim (.int .i64 (0))), .own 0 [], .own 0 []] := by kernel_rfl
theorem pla37 : placesT Try.prog 37 = some [(0, 1), (1, 1), (2, 2), (4, 1)] := by kernel_rfl
theorem con37 : concT Try.prog 37 = true := by kernel_rfl
theorem fld37_0 : fieldT Try.prog 37 0 = some (false, 0, 1) := by kernel_rfl
theorem fld37_1 : fieldT Try.prog 37 1 = some (false, 1, 1) := by kernel_rfl
theorem fld37_2 : fieldT Try.prog 37 2 = some (true, 2, 2) := by kernel_rfl
theorem fld37_3 : fieldT Try.prog 37 3 = some (false, 4, 1) := by kernel_rfl
-- 38: api.Errno
theorem lay38 : layT Try.prog 38 = some (false, 1) := by kernel_rfl
theorem zer38 : zeroT Try.prog 38 = some [.v (.prim (.int .i64 (0)))] := by kernel_rfl
theorem con38 : concT Try.prog 38 = true := by kernel_rfl
theorem int38 : intT Try.prog 38 = some .i64 := by kernel_rfl
-- 39: (api.Term, api.Errno)
theorem lay39 : layT Try.prog 39 = some (false, 1) := by kernel_rfl
theorem con39 : concT Try.prog 39 = true := by kernel_rfl
-- 40: func(api.Value) (api.Term, api.Errno)
theorem lay40 : layT Try.prog 40 = some (false, 1) := by kernel_rfl
theorem zer40 : zeroT Try.prog 40 = some [.v (.prim .nilFunc)] := by kernel_rfl
theorem con40 : concT Try.prog 40 = true := by kernel_rfl
-- 41: func(api.Term) int
theorem lay41 : layT Try.prog 41 = some (false, 1) := by kernel_rfl
theorem zer41 : zeroT Try.prog 41 = some [.v (.prim .nilFunc)] := by kernel_rfl
theorem con41 : concT Try.prog 41 = true := by kernel_rfl
-- 42: func(api.Value) int
theorem lay42 : layT Try.prog 42 = some (false, 1) := by kernel_rfl
theorem zer42 : zeroT Try.prog 42 = some [.v (.prim .nilFunc)] := by kernel_rfl
theorem con42 : concT Try.prog 42 = true := by kernel_rfl
-- 43: func(api.Term, api.Term) bool
theorem lay43 : layT Try.prog 43 = some (false, 1) := by kernel_rfl
theorem zer43 : zeroT Try.prog 43 = some [.v (.prim .nilFunc)] := by kernel_rfl
theorem con43 : concT Try.prog 43 = true := by kernel_rfl
-- 44: func(int, ...api.Term) api.Term
theorem lay44 : layT Try.prog 44 = some (false, 1) := by kernel_rfl
theorem zer44 : zeroT Try.prog 44 = some [.v (.prim .nilFunc)] := by kernel_rfl
theorem con44 : concT Try.prog 44 = true := by kernel_rfl
-- 45: struct { L []int; At int }
theorem lay45 : layT Try.prog 45 = some (true, 2) := by kernel_rfl
theorem zer45 : zeroT Try.prog 45 = some [.own 0 [], .v (.prim (.int .i64 (0)))] := by kernel_rfl
theorem pla45 : placesT Try.prog 45 = some [(0, 1), (1, 1)] := by kernel_rfl
theorem con45 : concT Try.prog 45 = true := by kernel_rfl
theorem fld45_0 : fieldT Try.prog 45 0 = some (false, 0, 1) := by kernel_rfl
theorem fld45_1 : fieldT Try.prog 45 1 = some (false, 1, 1) := by kernel_rfl
-- 46: proofprogramsmake.Deck
theorem lay46 : layT Try.prog 46 = some (true, 2) := by kernel_rfl
theorem zer46 : zeroT Try.prog 46 = some [.own 0 [], .v (.prim (.int .i64 (0)))] := by kernel_rfl
theorem pla46 : placesT Try.prog 46 = some [(0, 1), (1, 1)] := by kernel_rfl
theorem con46 : concT Try.prog 46 = true := by kernel_rfl
theorem fld46_0 : fieldT Try.prog 46 0 = some (false, 0, 1) := by kernel_rfl
theorem fld46_1 : fieldT Try.prog 46 1 = some (false, 1, 1) := by kernel_rfl
-- 47: func(int) int
theorem lay47 : layT Try.prog 47 = some (false, 1) := by kernel_rfl
theorem zer47 : zeroT Try.prog 47 = some [.v (.prim .nilFunc)] := by kernel_rfl
theorem con47 : concT Try.prog 47 = true := by kernel_rfl
-- 48: func() api.Type
theorem lay48 : layT Try.prog 48 = some (false, 1) := by kernel_rfl
theorem zer48 : zeroT Try.prog 48 = some [.v (.prim .nilFunc)] := by kernel_rfl
theorem con48 : concT Try.prog 48 = true := by kernel_rfl
-- 49: func(api.Type, api.Type) api.Type
theorem lay49 : layT Try.prog 49 = some (false, 1) := by kernel_rfl
theorem zer49 : zeroT Try.prog 49 = some [.v (.prim .nilFunc)] := by kernel_rfl
theorem con49 : concT Try.prog 49 = true := by kernel_rfl
-- 50: func(api.Value) api.Errno
theorem lay50 : layT Try.prog 50 = some (false, 1) := by kernel_rfl
theorem zer50 : zeroT Try.prog 50 = some [.v (.prim .nilFunc)] := by kernel_rfl
theorem con50 : concT Try.prog 50 = true := by kernel_rfl
-- 51: func(api.Value) api.Term
theorem lay51 : layT Try.prog 51 = some (false, 1) := by kernel_rfl
theorem zer51 : zeroT Try.prog 51 = some [.v (.prim .nilFunc)] := by kernel_rfl
theorem con51 : concT Try.prog 51 = true := by kernel_rfl
-- 52: func(api.Type, api.Type) bool
theorem lay52 : layT Try.prog 52 = some (false, 1) := by kernel_rfl
theorem zer52 : zeroT Try.prog 52 = some [.v (.prim .nilFunc)] := by kernel_rfl
theorem con52 : concT Try.prog 52 = true := by kernel_rfl
-- 53: func(api.Term) api.Term
theorem lay53 : layT Try.prog 53 = some (false, 1) := by kernel_rfl
theorem zer53 : zeroT Try.prog 53 = some [.v (.prim .nilFunc)] := by kernel_rfl
theorem con53 : concT Try.prog 53 = true := by kernel_rfl
-- 54: func(int, int) int
theorem lay54 : layT Try.prog 54 = some (false, 1) := by kernel_rfl
theorem zer54 : zeroT Try.prog 54 = some [.v (.prim .nilFunc)] := by kernel_rfl
theorem con54 : concT Try.prog 54 = true := by kernel_rfl
-- 55: func(api.Type) api.Type
theorem lay55 : layT Try.prog 55 = some (false, 1) := by kernel_rfl
theorem zer55 : zeroT Try.prog 55 = some [.v (.prim .nilFunc)] := by kernel_rfl
theorem con55 : concT Try.prog 55 = true := by kernel_rfl
-- 56: (int, bool)
theorem lay56 : layT Try.prog 56 = some (false, 1) := by kernel_rfl
theorem con56 : concT Try.prog 56 = true := by kernel_rfl
-- 57: func(api.Value) (int, bool)
theorem lay57 : layT Try.prog 57 = some (false, 1) := by kernel_rfl
theorem zer57 : zeroT Try.prog 57 = some [.v (.prim .nilFunc)] := by kernel_rfl
theorem con57 : concT Try.prog 57 = true := by kernel_rfl
-- 58: func(func(int, int) bool)
theorem lay58 : layT Try.prog 58 = some (false, 1) := by kernel_rfl
theorem zer58 : zeroT Try.prog 58 = some [.v (.prim .nilFunc)] := by kernel_rfl
theorem con58 : concT Try.prog 58 = true := by kernel_rfl
-- 59: iter.Seq2[int,int]
theorem lay59 : layT Try.prog 59 = some (false, 1) := by kernel_rfl
theorem zer59 : zeroT Try.prog 59 = some [.v (.prim .nilFunc)] := by kernel_rfl
theorem con59 : concT Try.prog 59 = true := by kernel_rfl
-- 60: func([]int) iter.Seq2[int,int]
theorem lay60 : layT Try.prog 60 = some (false, 1) := by kernel_rfl
theorem zer60 : zeroT Try.prog 60 = some [.v (.prim .nilFunc)] := by kernel_rfl
theorem con60 : concT Try.prog 60 = true := by kernel_rfl
-- 61: func(int) api.Term
theorem lay61 : layT Try.prog 61 = some (false, 1) := by kernel_rfl
theorem zer61 : zeroT Try.prog 61 = some [.v (.prim .nilFunc)] := by kernel_rfl
theorem con61 : concT Try.prog 61 = true := by kernel_rfl
-- 62: func(int) bool
theorem lay62 : layT Try.prog 62 = some (false, 1) := by kernel_rfl
theorem zer62 : zeroT Try.prog 62 = some [.v (.prim .nilFunc)] := by kernel_rfl
theorem con62 : concT Try.prog 62 = true := by kernel_rfl
-- 63: func([]int, func(int) bool) bool
theorem lay63 : layT Try.prog 63 = some (false, 1) := by kernel_rfl
theorem zer63 : zeroT Try.prog 63 = some [.v (.prim .nilFunc)] := by kernel_rfl
theorem con63 : concT Try.prog 63 = true := by kernel_rfl
-- 64: func(int, int) bool
theorem lay64 : layT Try.prog 64 = some (false, 1) := by kernel_rfl
theorem zer64 : zeroT Try.prog 64 = some [.v (.prim .nilFunc)] := by kernel_rfl
theorem con64 : concT Try.prog 64 = true := by kernel_rfl
-- 65: func([]int, func(int) bool) int
theorem lay65 : layT Try.prog 65 = some (false, 1) := by kernel_rfl
theorem zer65 : zeroT Try.prog 65 = some [.v (.prim .nilFunc)] := by kernel_rfl
theorem con65 : concT Try.prog 65 = true := by kernel_rfl
-- 66: func() string
theorem lay66 : layT Try.prog 66 = some (false, 1) := by kernel_rfl
theorem zer66 : zeroT Try.prog 66 = some [.v (.prim .nilFunc)] := by kernel_rfl
theorem con66 : concT Try.prog 66 = true := by kernel_rfl
-- 67: struct { _interface *abi.Type; concrete *abi.Type; asserted *abi.Type; missingMethod string }
theorem lay67 : layT Try.prog 67 = some (true, 4) := by kernel_rfl
theorem zer67 : zeroT Try.prog 67 = some [.v (.prim (.pointer none)), .v (.prim (.pointer none)), .v (.prim (.pointer none)), .v (.prim (.string ByteArray.empty))] := by kernel_rfl
theorem pla67 : placesT Try.prog 67 = some [(0, 1), (1, 1), (2, 1), (3, 1)] := by kernel_rfl
theorem con67 : concT Try.prog 67 = true := by kernel_rfl
theorem fld67_0 : fieldT Try.prog 67 0 = some (false, 0, 1) := by kernel_rfl
theorem fld67_1 : fieldT Try.prog 67 1 = some (false, 1, 1) := by kernel_rfl
theorem fld67_2 : fieldT Try.prog 67 2 = some (false, 2, 1) := by kernel_rfl
theorem fld67_3 : fieldT Try.prog 67 3 = some (false, 3, 1) := by kernel_rfl
-- 68: runtime.TypeAssertionError
theorem lay68 : layT Try.prog 68 = some (true, 4) := by kernel_rfl
theorem zer68 : zeroT Try.prog 68 = some [.v (.prim (.pointer none)), .v (.prim (.pointer none)), .v (.prim (.pointer none)), .v (.prim (.string ByteArray.empty))] := by kernel_rfl
theorem pla68 : placesT Try.prog 68 = some [(0, 1), (1, 1), (2, 1), (3, 1)] := by kernel_rfl
theorem con68 : concT Try.prog 68 = true := by kernel_rfl
theorem fld68_0 : fieldT Try.prog 68 0 = some (false, 0, 1) := by kernel_rfl
theorem fld68_1 : fieldT Try.prog 68 1 = some (false, 1, 1) := by kernel_rfl
theorem fld68_2 : fieldT Try.prog 68 2 = some (false, 2, 1) := by kernel_rfl
theorem fld68_3 : fieldT Try.prog 68 3 = some (false, 3, 1) := by kernel_rfl
-- 69: [0]*runtime.PanicNilError
theorem lay69 : layT Try.prog 69 = some (true, 0) := by kernel_rfl
theorem zer69 : zeroT Try.prog 69 = some [] := by kernel_rfl
theorem arr69 : arrT Try.prog 69 = some (0, 1) := by kernel_rfl
theorem pla69 : placesT Try.prog 69 = some [] := by kernel_rfl
theorem con69 : concT Try.prog 69 = true := by kernel_rfl
-- 70: struct { _ [0]*runtime.PanicNilError }
theorem lay70 : layT Try.prog 70 = some (true, 0) := by kernel_rfl
theorem zer70 : zeroT Try.prog 70 = some [] := by kernel_rfl
theorem pla70 : placesT Try.prog 70 = some [(0, 0)] := by kernel_rfl
theorem con70 : concT Try.prog 70 = true := by kernel_rfl
-- 71: runtime.PanicNilError
theorem lay71 : layT Try.prog 71 = some (true, 0) := by kernel_rfl
theorem zer71 : zeroT Try.prog 71 = some [] := by kernel_rfl
theorem pla71 : placesT Try.prog 71 = some [(0, 0)] := by kernel_rfl
theorem con71 : concT Try.prog 71 = true := by kernel_rfl
-- 72: func() int
theorem lay72 : layT Try.prog 72 = some (false, 1) := by kernel_rfl
theorem zer72 : zeroT Try.prog 72 = some [.v (.prim .nilFunc)] := by kernel_rfl
theorem con72 : concT Try.prog 72 = true := by kernel_rfl
-- 73: uint32
theorem lay73 : layT Try.prog 73 = some (false, 1) := by kernel_rfl
theorem zer73 : zeroT Try.prog 73 = some [.v (.prim (.int .u32 (0)))] := by kernel_rfl
theorem con73 : concT Try.prog 73 = true := by kernel_rfl
theorem int73 : intT Try.prog 73 = some .u32 := by kernel_rfl
-- 74: abi.TFlag
theorem lay74 : layT Try.prog 74 = some (false, 1) := by kernel_rfl
theorem zer74 : zeroT Try.prog 74 = some [.v (.prim (.int .u8 (0)))] := by kernel_rfl
theorem con74 : concT Try.prog 74 = true := by kernel_rfl
theorem int74 : intT Try.prog 74 = some .u8 := by kernel_rfl
-- 75: abi.Kind
theorem lay75 : layT Try.prog 75 = some (false, 1) := by kernel_rfl
theorem zer75 : zeroT Try.prog 75 = some [.v (.prim (.int .u8 (0)))] := by kernel_rfl
theorem con75 : concT Try.prog 75 = true := by kernel_rfl
theorem int75 : intT Try.prog 75 = some .u8 := by kernel_rfl
-- 76: func(unsafe.Pointer, unsafe.Pointer) bool
theorem lay76 : layT Try.prog 76 = some (false, 1) := by kernel_rfl
theorem zer76 : zeroT Try.prog 76 = some [.v (.prim .nilFunc)] := by kernel_rfl
theorem con76 : concT Try.prog 76 = true := by kernel_rfl
-- 77: *uint8
theorem lay77 : layT Try.prog 77 = some (false, 1) := by kernel_rfl
theorem zer77 : zeroT Try.prog 77 = some [.v (.prim (.pointer none))] := by kernel_rfl
theorem con77 : concT Try.prog 77 = true := by kernel_rfl
-- 78: abi.NameOff
theorem lay78 : layT Try.prog 78 = some (false, 1) := by kernel_rfl
theorem zer78 : zeroT Try.prog 78 = some [.v (.prim (.int .i32 (0)))] := by kernel_rfl
theorem con78 : concT Try.prog 78 = true := by kernel_rfl
theorem int78 : intT Try.prog 78 = some .i32 := by kernel_rfl
-- 79: abi.TypeOff
theorem lay79 : layT Try.prog 79 = some (false, 1) := by kernel_rfl
theorem zer79 : zeroT Try.prog 79 = some [.v (.prim (.int .i32 (0)))] := by kernel_rfl
theorem con79 : concT Try.prog 79 = true := by kernel_rfl
theorem int79 : intT Try.prog 79 = some .i32 := by kernel_rfl
-- 80: struct { Size_ uintptr; PtrBytes uintptr; Hash uint32; TFlag abi.TFlag; Align_ uint8; FieldAlign_ uint8; Kind_ abi.Kind; Equal func(unsafe.Pointer, unsafe.Pointer) bool; GCData *uint8; Str abi.NameOff; PtrToThis abi.TypeOff }
theorem lay80 : layT Try.prog 80 = some (true, 11) := by kernel_rfl
theorem zer80 : zeroT Try.prog 80 = some [.v (.prim (.int .u64 (0))), .v (.prim (.int .u64 (0))), .v (.prim (.int .u32 (0))), .v (.prim (.int .u8 (0))), .v (.prim (.int .u8 (0))), .v (.prim (.int .u8 (0))), .v (.prim (.int .u8 (0))), .v (.prim .nilFunc), .v (.prim (.pointer none)), .v (.prim (.int .i32 (0))), .v (.prim (.int .i32 (0)))] := by kernel_rfl
theorem pla80 : placesT Try.prog 80 = some [(0, 1), (1, 1), (2, 1), (3, 1), (4, 1), (5, 1), (6, 1), (7, 1), (8, 1), (9, 1), (10, 1)] := by kernel_rfl
theorem con80 : concT Try.prog 80 = true := by kernel_rfl
theorem fld80_0 : fieldT Try.prog 80 0 = some (false, 0, 1) := by kernel_rfl
theorem fld80_1 : fieldT Try.prog 80 1 = some (false, 1, 1) := by kernel_rfl
theorem fld80_2 : fieldT Try.prog 80 2 = some (false, 2, 1) := by kernel_rfl
theorem fld80_3 : fieldT Try.prog 80 3 = some (false, 3, 1) := by kernel_rfl
theorem fld80_4 : fieldT Try.prog 80 4 = some (false, 4, 1) := by kernel_rfl
theorem fld80_5 : fieldT Try.prog 80 5 = some (false, 5, 1) := by kernel_rfl
theorem fld80_6 : fieldT Try.prog 80 6 = some (false, 6, 1) := by kernel_rfl
theorem fld80_7 : fieldT Try.prog 80 7 = some (false, 7, 1) := by kernel_rfl
theorem fld80_8 : fieldT Try.prog 80 8 = some (false, 8, 1) := by kernel_rfl
theorem fld80_9 : fieldT Try.prog 80 9 = some (false, 9, 1) := by kernel_rfl
theorem fld80_10 : fieldT Try.prog 80 10 = some (false, 10, 1) := by kernel_rfl
-- 81: abi.Type
theorem lay81 : layT Try.prog 81 = some (true, 11) := by kernel_rfl
theorem zer81 : zeroT Try.prog 81 = some [.v (.prim (.int .u64 (0))), .v (.prim (.int .u64 (0))), .v (.prim (.int .u32 (0))), .v (.prim (.int .u8 (0))), .v (.prim (.int .u8 (0))), .v (.prim (.int .u8 (0))), .v (.prim (.int .u8 (0))), .v (.prim .nilFunc), .v (.prim (.pointer none)), .v (.prim (.int .i32 (0))), .v (.prim (.int .i32 (0)))] := by kernel_rfl
theorem pla81 : placesT Try.prog 81 = some [(0, 1), (1, 1), (2, 1), (3, 1), (4, 1), (5, 1), (6, 1), (7, 1), (8, 1), (9, 1), (10, 1)] := by kernel_rfl
theorem con81 : concT Try.prog 81 = true := by kernel_rfl
theorem fld81_0 : fieldT Try.prog 81 0 = some (false, 0, 1) := by kernel_rfl
theorem fld81_1 : fieldT Try.prog 81 1 = some (false, 1, 1) := by kernel_rfl
theorem fld81_2 : fieldT Try.prog 81 2 = some (false, 2, 1) := by kernel_rfl
theorem fld81_3 : fieldT Try.prog 81 3 = some (false, 3, 1) := by kernel_rfl
theorem fld81_4 : fieldT Try.prog 81 4 = some (false, 4, 1) := by kernel_rfl
theorem fld81_5 : fieldT Try.prog 81 5 = some (false, 5, 1) := by kernel_rfl
theorem fld81_6 : fieldT Try.prog 81 6 = some (false, 6, 1) := by kernel_rfl
theorem fld81_7 : fieldT Try.prog 81 7 = some (false, 7, 1) := by kernel_rfl
theorem fld81_8 : fieldT Try.prog 81 8 = some (false, 8, 1) := by kernel_rfl
theorem fld81_9 : fieldT Try.prog 81 9 = some (false, 9, 1) := by kernel_rfl
theorem fld81_10 : fieldT Try.prog 81 10 = some (false, 10, 1) := by kernel_rfl
-- 82: unsafe.Pointer
theorem lay82 : layT Try.prog 82 = some (false, 1) := by kernel_rfl
theorem zer82 : zeroT Try.prog 82 = some [.v (.prim (.pointer none))] := by kernel_rfl
theorem con82 : concT Try.prog 82 = true := by kernel_rfl

attribute [go_sem] lay0 con0 lay1 zer1 con1 lay2 zer2 con2 int2 lay3 zer3 con3 int3 lay4 zer4 boo4 con4 lay5 zer5 con5 int5 lay6 zer6 con6 int6 lay7 zer7 pla7 con7 fld7_0 fld7_1 fld7_2 fld7_3 lay8 zer8 pla8 con8 fld8_0 fld8_1 fld8_2 fld8_3 lay9 zer9 con9 lay10 zer10 con10 lay11 zer11 con11 lay12 zer12 con12 int12 lay13 zer13 pla13 con13 fld13_0 fld13_1 lay14 zer14 pla14 con14 fld14_0 fld14_1 lay15 zer15 con15 lay16 zer16 con16 lay17 zer17 con17 lay18 zer18 pla18 con18 fld18_0 lay19 zer19 pla19 con19 fld19_0 lay20 zer20 lay21 zer21 con21 int21 lay22 zer22 ele22 elz22 con22 lay23 zer23 con23 lay24 zer24 con24 lay25 zer25 con25 lay26 zer26 con26 lay27 zer27 ele27 elz27 con27 lay28 zer28 pla28 con28 fld28_0 fld28_1 fld28_2 fld28_3 lay29 zer29 pla29 con29 fld29_0 fld29_1 fld29_2 fld29_3 lay30 zer30 con30 lay31 zer31 ele31 elz31 con31 lay32 zer32 pla32 con32 fld32_0 fld32_1 lay33 zer33 pla33 con33 fld33_0 fld33_1 lay34 zer34 con34 lay35 zer35 ele35 elz35 con35 lay36 zer36 pla36 con36 fld36_0 fld36_1 fld36_2 fld36_3 lay37 zer37 pla37 con37 fld37_0 fld37_1 fld37_2 fld37_3 lay38 zer38 con38 int38 lay39 con39 lay40 zer40 con40 lay41 zer41 con41 lay42 zer42 con42 lay43 zer43 con43 lay44 zer44 con44 lay45 zer45 pla45 con45 fld45_0 fld45_1 lay46 zer46 pla46 con46 fld46_0 fld46_1 lay47 zer47 con47 lay48 zer48 con48 lay49 zer49 con49 lay50 zer50 con50 lay51 zer51 con51 lay52 zer52 con52 lay53 zer53 con53 lay54 zer54 con54 lay55 zer55 con55 lay56 con56 lay57 zer57 con57 lay58 zer58 con58 lay59 zer59 con59 lay60 zer60 con60 lay61 zer61 con61 lay62 zer62 con62 lay63 zer63 con63 lay64 zer64 con64 lay65 zer65 con65 lay66 zer66 con66 lay67 zer67 pla67 con67 fld67_0 fld67_1 fld67_2 fld67_3 lay68 zer68 pla68 con68 fld68_0 fld68_1 fld68_2 fld68_3 lay69 zer69 arr69 pla69 con69 lay70 zer70 pla70 con70 lay71 zer71 pla71 con71 lay72 zer72 con72 lay73 zer73 con73 int73 lay74 zer74 con74 int74 lay75 zer75 con75 int75 lay76 zer76 con76 lay77 zer77 con77 lay78 zer78 con78 int78 lay79 zer79 con79 int79 lay80 zer80 pla80 con80 fld80_0 fld80_1 fld80_2 fld80_3 fld80_4 fld80_5 fld80_6 fld80_7 fld80_8 fld80_9 fld80_10 lay81 zer81 pla81 con81 fld81_0 fld81_1 fld81_2 fld81_3 fld81_4 fld81_5 fld81_6 fld81_7 fld81_8 fld81_9 fld81_10 lay82 zer82 con82
end Go.Proofs.Ytbmnlkfgkdallaa.Lift
