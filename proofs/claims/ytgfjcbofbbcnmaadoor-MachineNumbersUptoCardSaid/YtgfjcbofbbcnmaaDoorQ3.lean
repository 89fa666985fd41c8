import Derived.Test.YtgfjcbofbbcnmaaDoorQ2
import Derived.Test.YtgfjcbofbbcnmaaDoorProg
/-
  Facts of the seat's types, printed by a program: each is proved by reckoning.
-/
namespace Go.Proofs.YtgfjcbofbbcnmaaDoor.Lift
set_option linter.unusedVariables false
open Go

theorem mixed : Tryd.prog.follows .mixedOrders = true := by kernel_rfl
-- 0: ()
theorem lay0 : layT Tryd.prog 0 = some (false, 1) := by kernel_rfl
theorem con0 : concT Tryd.prog 0 = true := by kernel_rfl
-- 1: func()
theorem lay1 : layT Tryd.prog 1 = some (false, 1) := by kernel_rfl
theorem zer1 : zeroT Tryd.prog 1 = some [.v (.prim .nilFunc)] := by kernel_rfl
theorem con1 : concT Tryd.prog 1 = true := by kernel_rfl
-- 2: int64
theorem lay2 : layT Tryd.prog 2 = some (false, 1) := by kernel_rfl
theorem zer2 : zeroT Tryd.prog 2 = some [.v (.prim (.int .i64 (0)))] := by kernel_rfl
theorem zrp2 : zeroP Tryd.prog 2 = some (.int .i64 (0)) := by kernel_rfl
theorem con2 : concT Tryd.prog 2 = true := by kernel_rfl
theorem int2 : intT Tryd.prog 2 = some .i64 := by kernel_rfl
-- 3: int
theorem lay3 : layT Tryd.prog 3 = some (false, 1) := by kernel_rfl
theorem zer3 : zeroT Tryd.prog 3 = some [.v (.prim (.int .i64 (0)))] := by kernel_rfl
theorem zrp3 : zeroP Tryd.prog 3 = some (.int .i64 (0)) := by kernel_rfl
theorem con3 : concT Tryd.prog 3 = true := by kernel_rfl
theorem int3 : intT Tryd.prog 3 = some .i64 := by kernel_rfl
-- 4: bool
theorem lay4 : layT Tryd.prog 4 = some (false, 1) := by kernel_rfl
theorem zer4 : zeroT Tryd.prog 4 = some [.v (.prim (.bool false))] := by kernel_rfl
theorem boo4 : boolT Tryd.prog 4 = true := by kernel_rfl
theorem con4 : concT Tryd.prog 4 = true := by kernel_rfl
-- 5: uint8
theorem lay5 : layT Tryd.prog 5 = some (false, 1) := by kernel_rfl
theorem zer5 : zeroT Tryd.prog 5 = some [.v (.prim (.int .u8 (0)))] := by kernel_rfl
theorem zrp5 : zeroP Tryd.prog 5 = some (.int .u8 (0)) := by kernel_rfl
theorem con5 : concT Tryd.prog 5 = true := by kernel_rfl
theorem int5 : intT Tryd.prog 5 = some .u8 := by kernel_rfl
-- 6: abi.BoundsErrorCode
theorem lay6 : layT Tryd.prog 6 = some (false, 1) := by kernel_rfl
theorem zer6 : zeroT Tryd.prog 6 = some [.v (.prim (.int .u8 (0)))] := by kernel_rfl
theorem zrp6 : zeroP Tryd.prog 6 = some (.int .u8 (0)) := by kernel_rfl
theorem con6 : concT Tryd.prog 6 = true := by kernel_rfl
theorem int6 : intT Tryd.prog 6 = some .u8 := by kernel_rfl
-- 7: struct { x int64; y int; signed bool; code abi.BoundsErrorCode }
theorem lay7 : layT Tryd.prog 7 = some (true, 4) := by kernel_rfl
theorem zer7 : zeroT Tryd.prog 7 = some [.v (.prim (.int .i64 (0))), .v (.prim (.int .i64 (0))), .v (.prim (.bool false)), .v (.prim (.int .u8 (0)))] := by kernel_rfl
theorem pla7 : placesT Tryd.prog 7 = some [(0, 1), (1, 1), (2, 1), (3, 1)] := by kernel_rfl
theorem con7 : concT Tryd.prog 7 = true := by kernel_rfl
theorem fld7_0 : fieldT Tryd.prog 7 0 = some (false, 0, 1) := by kernel_rfl
theorem fld7_1 : fieldT Tryd.prog 7 1 = some (false, 1, 1) := by kernel_rfl
theorem fld7_2 : fieldT Tryd.prog 7 2 = some (false, 2, 1) := by kernel_rfl
theorem fld7_3 : fieldT Tryd.prog 7 3 = some (false, 3, 1) := by kernel_rfl
-- 8: runtime.boundsError
theorem lay8 : layT Tryd.prog 8 = some (true, 4) := by kernel_rfl
theorem zer8 : zeroT Tryd.prog 8 = some [.v (.prim (.int .i64 (0))), .v (.prim (.int .i64 (0))), .v (.prim (.bool false)), .v (.prim (.int .u8 (0)))] := by kernel_rfl
theorem pla8 : placesT Tryd.prog 8 = some [(0, 1), (1, 1), (2, 1), (3, 1)] := by kernel_rfl
theorem con8 : concT Tryd.prog 8 = true := by kernel_rfl
theorem fld8_0 : fieldT Tryd.prog 8 0 = some (false, 0, 1) := by kernel_rfl
theorem fld8_1 : fieldT Tryd.prog 8 1 = some (false, 1, 1) := by kernel_rfl
theorem fld8_2 : fieldT Tryd.prog 8 2 = some (false, 2, 1) := by kernel_rfl
theorem fld8_3 : fieldT Tryd.prog 8 3 = some (false, 3, 1) := by kernel_rfl
-- 9: string
theorem lay9 : layT Tryd.prog 9 = some (false, 1) := by kernel_rfl
theorem zer9 : zeroT Tryd.prog 9 = some [.v (.prim (.string ByteArray.empty))] := by kernel_rfl
theorem con9 : concT Tryd.prog 9 = true := by kernel_rfl
-- 10: runtime.errorString
theorem lay10 : layT Tryd.prog 10 = some (false, 1) := by kernel_rfl
theorem zer10 : zeroT Tryd.prog 10 = some [.v (.prim (.string ByteArray.empty))] := by kernel_rfl
theorem con10 : concT Tryd.prog 10 = true := by kernel_rfl
-- 11: runtime.plainError
theorem lay11 : layT Tryd.prog 11 = some (false, 1) := by kernel_rfl
theorem zer11 : zeroT Tryd.prog 11 = some [.v (.prim (.string ByteArray.empty))] := by kernel_rfl
theorem con11 : concT Tryd.prog 11 = true := by kernel_rfl
-- 12: uintptr
theorem lay12 : layT Tryd.prog 12 = some (false, 1) := by kernel_rfl
theorem zer12 : zeroT Tryd.prog 12 = some [.v (.prim (.int .u64 (0)))] := by kernel_rfl
theorem zrp12 : zeroP Tryd.prog 12 = some (.int .u64 (0)) := by kernel_rfl
theorem con12 : concT Tryd.prog 12 = true := by kernel_rfl
theorem int12 : intT Tryd.prog 12 = some .u64 := by kernel_rfl
-- 13: struct { msg string; addr uintptr }
theorem lay13 : layT Tryd.prog 13 = some (true, 2) := by kernel_rfl
theorem zer13 : zeroT Tryd.prog 13 = some [.v (.prim (.string ByteArray.empty)), .v (.prim (.int .u64 (0)))] := by kernel_rfl
theorem pla13 : placesT Tryd.prog 13 = some [(0, 1), (1, 1)] := by kernel_rfl
theorem con13 : concT Tryd.prog 13 = true := by kernel_rfl
theorem fld13_0 : fieldT Tryd.prog 13 0 = some (false, 0, 1) := by kernel_rfl
theorem fld13_1 : fieldT Tryd.prog 13 1 = some (false, 1, 1) := by kernel_rfl
-- 14: runtime.errorAddressString
theorem lay14 : layT Tryd.prog 14 = some (true, 2) := by kernel_rfl
theorem zer14 : zeroT Tryd.prog 14 = some [.v (.prim (.string ByteArray.empty)), .v (.prim (.int .u64 (0)))] := by kernel_rfl
theorem pla14 : placesT Tryd.prog 14 = some [(0, 1), (1, 1)] := by kernel_rfl
theorem con14 : concT Tryd.prog 14 = true := by kernel_rfl
theorem fld14_0 : fieldT Tryd.prog 14 0 = some (false, 0, 1) := by kernel_rfl
theorem fld14_1 : fieldT Tryd.prog 14 1 = some (false, 1, 1) := by kernel_rfl
-- 15: *runtime.TypeAssertionError
theorem lay15 : layT Tryd.prog 15 = some (false, 1) := by kernel_rfl
theorem zer15 : zeroT Tryd.prog 15 = some [.v (.prim (.pointer none))] := by kernel_rfl
theorem ptr15 : ptrT Tryd.prog 15 = true := by kernel_rfl
theorem zrp15 : zeroP Tryd.prog 15 = some (.pointer none) := by kernel_rfl
theorem con15 : concT Tryd.prog 15 = true := by kernel_rfl
-- 16: *runtime.PanicNilError
theorem lay16 : layT Tryd.prog 16 = some (false, 1) := by kernel_rfl
theorem zer16 : zeroT Tryd.prog 16 = some [.v (.prim (.pointer none))] := by kernel_rfl
theorem ptr16 : ptrT Tryd.prog 16 = true := by kernel_rfl
theorem zrp16 : zeroP Tryd.prog 16 = some (.pointer none) := by kernel_rfl
theorem con16 : concT Tryd.prog 16 = true := by kernel_rfl
-- 17: *abi.Type
theorem lay17 : layT Tryd.prog 17 = some (false, 1) := by kernel_rfl
theorem zer17 : zeroT Tryd.prog 17 = some [.v (.prim (.pointer none))] := by kernel_rfl
theorem ptr17 : ptrT Tryd.prog 17 = true := by kernel_rfl
theorem zrp17 : zeroP Tryd.prog 17 = some (.pointer none) := by kernel_rfl
theorem con17 : concT Tryd.prog 17 = true := by kernel_rfl
-- 18: struct { typ *abi.Type }
theorem lay18 : layT Tryd.prog 18 = some (true, 1) := by kernel_rfl
theorem zer18 : zeroT Tryd.prog 18 = some [.v (.prim (.pointer none))] := by kernel_rfl
theorem pla18 : placesT Tryd.prog 18 = some [(0, 1)] := by kernel_rfl
theorem con18 : concT Tryd.prog 18 = true := by kernel_rfl
theorem fld18_0 : fieldT Tryd.prog 18 0 = some (false, 0, 1) := by kernel_rfl
-- 19: maps.unhashableTypeError
theorem lay19 : layT Tryd.prog 19 = some (true, 1) := by kernel_rfl
theorem zer19 : zeroT Tryd.prog 19 = some [.v (.prim (.pointer none))] := by kernel_rfl
theorem pla19 : placesT Tryd.prog 19 = some [(0, 1)] := by kernel_rfl
theorem con19 : concT Tryd.prog 19 = true := by kernel_rfl
theorem fld19_0 : fieldT Tryd.prog 19 0 = some (false, 0, 1) := by kernel_rfl
-- 20: interface {}
theorem lay20 : layT Tryd.prog 20 = some (false, 1) := by kernel_rfl
theorem zer20 : zeroT Tryd.prog 20 = some [.v (.prim .nilIface)] := by kernel_rfl
-- 21: int32
theorem lay21 : layT Tryd.prog 21 = some (false, 1) := by kernel_rfl
theorem zer21 : zeroT Tryd.prog 21 = some [.v (.prim (.int .i32 (0)))] := by kernel_rfl
theorem zrp21 : zeroP Tryd.prog 21 = some (.int .i32 (0)) := by kernel_rfl
theorem con21 : concT Tryd.prog 21 = true := by kernel_rfl
theorem int21 : intT Tryd.prog 21 = some .i32 := by kernel_rfl
-- 22: []int
theorem lay22 : layT Tryd.prog 22 = some (false, 1) := by kernel_rfl
theorem zer22 : zeroT Tryd.prog 22 = some [.own 0 []] := by kernel_rfl
theorem ele22 : elemT Tryd.prog 22 = some 1 := by kernel_rfl
theorem elz22 : elemZ Tryd.prog 22 = some (1, 8) := by kernel_rfl
theorem con22 : concT Tryd.prog 22 = true := by kernel_rfl
-- 23: func() bool
theorem lay23 : layT Tryd.prog 23 = some (false, 1) := by kernel_rfl
theorem zer23 : zeroT Tryd.prog 23 = some [.v (.prim .nilFunc)] := by kernel_rfl
theorem con23 : concT Tryd.prog 23 = true := by kernel_rfl
-- 24: func([]int) bool
theorem lay24 : layT Tryd.prog 24 = some (false, 1) := by kernel_rfl
theorem zer24 : zeroT Tryd.prog 24 = some [.v (.prim .nilFunc)] := by kernel_rfl
theorem con24 : concT Tryd.prog 24 = true := by kernel_rfl
-- 25: *proofprogramsmake.Deck
theorem lay25 : layT Tryd.prog 25 = some (false, 1) := by kernel_rfl
theorem zer25 : zeroT Tryd.prog 25 = some [.v (.prim (.pointer none))] := by kernel_rfl
theorem ptr25 : ptrT Tryd.prog 25 = true := by kernel_rfl
theorem zrp25 : zeroP Tryd.prog 25 = some (.pointer none) := by kernel_rfl
theorem con25 : concT Tryd.prog 25 = true := by kernel_rfl
-- 26: func([]int) *proofprogramsmake.Deck
theorem lay26 : layT Tryd.prog 26 = some (false, 1) := by kernel_rfl
theorem zer26 : zeroT Tryd.prog 26 = some [.v (.prim .nilFunc)] := by kernel_rfl
theorem con26 : concT Tryd.prog 26 = true := by kernel_rfl
-- 27: []api.Type
theorem lay27 : layT Tryd.prog 27 = some (false, 1) := by kernel_rfl
theorem zer27 : zeroT Tryd.prog 27 = some [.own 0 []] := by kernel_rfl
theorem ele27 : elemT Tryd.prog 27 = some 2 := by kernel_rfl
theorem elz27 : elemZ Tryd.prog 27 = some (2, 32) := by kernel_rfl
theorem con27 : concT Tryd.prog 27 = true := by kernel_rfl
-- 28: struct { Kind int; Args []api.Type }
theorem lay28 : layT Tryd.prog 28 = some (true, 2) := by kernel_rfl
theorem zer28 : zeroT Tryd.prog 28 = some [.v (.prim (.int .i64 (0))), .own 0 []] := by kernel_rfl
theorem pla28 : placesT Tryd.prog 28 = some [(0, 1), (1, 1)] := by kernel_rfl
theorem con28 : concT Tryd.prog 28 = true := by kernel_rfl
theorem fld28_0 : fieldT Tryd.prog 28 0 = some (false, 0, 1) := by kernel_rfl
theorem fld28_1 : fieldT Tryd.prog 28 1 = some (false, 1, 1) := by kernel_rfl
-- 29: api.Type
theorem lay29 : layT Tryd.prog 29 = some (true, 2) := by kernel_rfl
theorem zer29 : zeroT Tryd.prog 29 = some [.v (.prim (.int .i64 (0))), .own 0 []] := by kernel_rfl
theorem pla29 : placesT Tryd.prog 29 = some [(0, 1), (1, 1)] := by kernel_rfl
theorem con29 : concT Tryd.prog 29 = true := by kernel_rfl
theorem fld29_0 : fieldT Tryd.prog 29 0 = some (false, 0, 1) := by kernel_rfl
theorem fld29_1 : fieldT Tryd.prog 29 1 = some (false, 1, 1) := by kernel_rfl
-- 30: func(*proofprogramsmake.Deck) api.Type
theorem lay30 : layT Tryd.prog 30 = some (false, 1) := by kernel_rfl
theorem zer30 : zeroT Tryd.prog 30 = some [.v (.prim .nilFunc)] := by kernel_rfl
theorem con30 : concT Tryd.prog 30 = true := by kernel_rfl
-- 31: []api.Term
theorem lay31 : layT Tryd.prog 31 = some (false, 1) := by kernel_rfl
theorem zer31 : zeroT Tryd.prog 31 = some [.own 0 []] := by kernel_rfl
theorem ele31 : elemT Tryd.prog 31 = some 5 := by kernel_rfl
theorem elz31 : elemZ Tryd.prog 31 = some (5, 72) := by kernel_rfl
theorem con31 : concT Tryd.prog 31 = true := by kernel_rfl
-- 32: struct { Kind int; Index int; Type api.Type; Args []api.Term }
theorem lay32 : layT Tryd.prog 32 = some (true, 5) := by kernel_rfl
theorem zer32 : zeroT Tryd.prog 32 = some [.v (.prim (.int .i64 (0))), .v (.prim (.int .i64 (0))), .v (.prim (.int .i64 (0))), .own 0 [], .own 0 []] := by kernel_rfl
theorem pla32 : placesT Tryd.prog 32 = some [(0, 1), (1, 1), (2, 2), (4, 1)] := by kernel_rfl
theorem con32 : concT Tryd.prog 32 = true := by kernel_rfl
theorem fld32_0 : fieldT Tryd.prog 32 0 = some (false, 0, 1) := by kernel_rfl
theorem fld32_1 : fieldT Tryd.prog 32 1 = some (false, 1, 1) := by kernel_rfl
theorem fld32_2 : fieldT Tryd.prog 32 2 = some (true, 2, 2) := by kernel_rfl
theorem fld32_3 : fieldT Tryd.prog 32 3 = some (false, 4, 1) := by kernel_rfl
-- 33: api.Term
theorem lay33 : layT Tryd.prog 33 = some (true, 5) := by kernel_rfl
theorem zer33 : zeroT Tryd.prog 33 = some [.v (.prim (.int .i64 (0))), .v (.prim (.int .i64 (0))), .v (.prim (.int .i64 (0))), .own 0 [], .own 0 []] := by kernel_rfl
theorem pla33 : placesT Tryd.prog 33 = some [(0, 1), (1, 1), (2, 2), (4, 1)] := by kernel_rfl
theorem con33 : concT Tryd.prog 33 = true := by kernel_rfl
theorem fld33_0 : fieldT Tryd.prog 33 0 = some (false, 0, 1) := by kernel_rfl
theorem fld33_1 : fieldT Tryd.prog 33 1 = some (false, 1, 1) := by kernel_rfl
theorem fld33_2 : fieldT Tryd.prog 33 2 = some (true, 2, 2) := by kernel_rfl
theorem fld33_3 : fieldT Tryd.prog 33 3 = some (false, 4, 1) := by kernel_rfl
-- 34: func(*proofprogramsmake.Deck, []api.Type, api.Type, int) api.Term
theorem lay34 : layT Tryd.prog 34 = some (false, 1) := by kernel_rfl
theorem zer34 : zeroT Tryd.prog 34 = some [.v (.prim .nilFunc)] := by kernel_rfl
theorem con34 : concT Tryd.prog 34 = true := by kernel_rfl
-- 35: func(api.Type, api.Type) api.Type
theorem lay35 : layT Tryd.prog 35 = some (false, 1) := by kernel_rfl
theorem zer35 : zeroT Tryd.prog 35 = some [.v (.prim .nilFunc)] := by kernel_rfl
theorem con35 : concT Tryd.prog 35 = true := by kernel_rfl
-- 36: []api.Value
theorem lay36 : layT Tryd.prog 36 = some (false, 1) := by kernel_rfl
theorem zer36 : zeroT Tryd.prog 36 = some [.own 0 []] := by kernel_rfl
theorem ele36 : elemT Tryd.prog 36 = some 4 := by kernel_rfl
theorem elz36 : elemZ Tryd.prog 36 = some (4, 64) := by kernel_rfl
theorem con36 : concT Tryd.prog 36 = true := by kernel_rfl
-- 37: struct { Kind int; Num int; List []int; Args []api.Value }
theorem lay37 : layT Tryd.prog 37 = some (true, 4) := by kernel_rfl
theorem zer37 : zeroT Tryd.prog 37 = some [.v (.prim (.int .i64 (0))), .v (.prim (.int .i64 (0))), .own 0 [], .own 0 []] := by kernel_rfl
theorem pla37 : placesT Tryd.prog 37 = some [(0, 1), (1, 1), (2, 1), (3, 1)] := by kernel_rfl
theorem con37 : concT Tryd.prog 37 = true := by kernel_rfl
theorem fld37_0 : fieldT Tryd.prog 37 0 = some (false, 0, 1) := by kernel_rfl
theorem fld37_1 : fieldT Tryd.prog 37 1 = some (false, 1, 1) := by kernel_rfl
theorem fld37_2 : fieldT Tryd.prog 37 2 = some (false, 2, 1) := by kernel_rfl
theorem fld37_3 : fieldT Tryd.prog 37 3 = some (false, 3, 1) := by kernel_rfl
-- 38: api.Value
theorem lay38 : layT Tryd.prog 38 = some (true, 4) := by kernel_rfl
theorem zer38 : zeroT Tryd.prog 38 = some [.v (.prim (.int .i64 (0))), .v (.prim (.int .i64 (0))), .own 0 [], .own 0 []] := by kernel_rfl
theorem pla38 : placesT Tryd.prog 38 = some [(0, 1), (1, 1), (2, 1), (3, 1)] := by kernel_rfl
theorem con38 : concT Tryd.prog 38 = true := by kernel_rfl
theorem fld38_0 : fieldT Tryd.prog 38 0 = some (false, 0, 1) := by kernel_rfl
theorem fld38_1 : fieldT Tryd.prog 38 1 = some (false, 1, 1) := by kernel_rfl
theorem fld38_2 : fieldT Tryd.prog 38 2 = some (false, 2, 1) := by kernel_rfl
theorem fld38_3 : fieldT Tryd.prog 38 3 = some (false, 3, 1) := by kernel_rfl
-- 39: func(*proofprogramsmake.Deck, api.Type) api.Value
theorem lay39 : layT Tryd.prog 39 = some (false, 1) := by kernel_rfl
theorem zer39 : zeroT Tryd.prog 39 = some [.v (.prim .nilFunc)] := by kernel_rfl
theorem con39 : concT Tryd.prog 39 = true := by kernel_rfl
-- 40: api.Errno
theorem lay40 : layT Tryd.prog 40 = some (false, 1) := by kernel_rfl
theorem zer40 : zeroT Tryd.prog 40 = some [.v (.prim (.int .i64 (0)))] := by kernel_rfl
theorem zrp40 : zeroP Tryd.prog 40 = some (.int .i64 (0)) := by kernel_rfl
theorem con40 : concT Tryd.prog 40 = true := by kernel_rfl
theorem int40 : intT Tryd.prog 40 = some .i64 := by kernel_rfl
-- 41: (api.Term, api.Errno)
theorem lay41 : layT Tryd.prog 41 = some (false, 1) := by kernel_rfl
theorem con41 : concT Tryd.prog 41 = true := by kernel_rfl
-- 42: func(api.Value) (api.Term, api.Errno)
theorem lay42 : layT Tryd.prog 42 = some (false, 1) := by kernel_rfl
theorem zer42 : zeroT Tryd.prog 42 = some [.v (.prim .nilFunc)] := by kernel_rfl
theorem con42 : concT Tryd.prog 42 = true := by kernel_rfl
-- 43: (api.Value, int, api.Errno)
theorem lay43 : layT Tryd.prog 43 = some (false, 1) := by kernel_rfl
theorem con43 : concT Tryd.prog 43 = true := by kernel_rfl
-- 44: func(api.Term, []api.Value, int) (api.Value, int, api.Errno)
theorem lay44 : layT Tryd.prog 44 = some (false, 1) := by kernel_rfl
theorem zer44 : zeroT Tryd.prog 44 = some [.v (.prim .nilFunc)] := by kernel_rfl
theorem con44 : concT Tryd.prog 44 = true := by kernel_rfl
-- 45: func(api.Term, int) (api.Value, int, api.Errno)
theorem lay45 : layT Tryd.prog 45 = some (false, 1) := by kernel_rfl
theorem zer45 : zeroT Tryd.prog 45 = some [.v (.prim .nilFunc)] := by kernel_rfl
theorem con45 : concT Tryd.prog 45 = true := by kernel_rfl
-- 46: func(int, ...api.Term) api.Term
theorem lay46 : layT Tryd.prog 46 = some (false, 1) := by kernel_rfl
theorem zer46 : zeroT Tryd.prog 46 = some [.v (.prim .nilFunc)] := by kernel_rfl
theorem con46 : concT Tryd.prog 46 = true := by kernel_rfl
-- 47: func(api.Value, api.Value) bool
theorem lay47 : layT Tryd.prog 47 = some (false, 1) := by kernel_rfl
theorem zer47 : zeroT Tryd.prog 47 = some [.v (.prim .nilFunc)] := by kernel_rfl
theorem con47 : concT Tryd.prog 47 = true := by kernel_rfl
-- 48: uint16
theorem lay48 : layT Tryd.prog 48 = some (false, 1) := by kernel_rfl
theorem zer48 : zeroT Tryd.prog 48 = some [.v (.prim (.int .u16 (0)))] := by kernel_rfl
theorem zrp48 : zeroP Tryd.prog 48 = some (.int .u16 (0)) := by kernel_rfl
theorem con48 : concT Tryd.prog 48 = true := by kernel_rfl
theorem int48 : intT Tryd.prog 48 = some .u16 := by kernel_rfl
-- 49: func([]int, uint16) bool
theorem lay49 : layT Tryd.prog 49 = some (false, 1) := by kernel_rfl
theorem zer49 : zeroT Tryd.prog 49 = some [.v (.prim .nilFunc)] := by kernel_rfl
theorem con49 : concT Tryd.prog 49 = true := by kernel_rfl
-- 50: func() api.Term
theorem lay50 : layT Tryd.prog 50 = some (false, 1) := by kernel_rfl
theorem zer50 : zeroT Tryd.prog 50 = some [.v (.prim .nilFunc)] := by kernel_rfl
theorem con50 : concT Tryd.prog 50 = true := by kernel_rfl
-- 51: struct { t api.Term; want int }
theorem lay51 : layT Tryd.prog 51 = some (true, 6) := by kernel_rfl
theorem zer51 : zeroT Tryd.prog 51 = some [.v (.prim (.int .i64 (0))), .v (.prim (.int .i64 (0))), .v (.prim (.int .i64 (0))), .own 0 [], .own 0 [], .v (.prim (.int .i64 (0)))] := by kernel_rfl
theorem pla51 : placesT Tryd.prog 51 = some [(0, 5), (5, 1)] := by kernel_rfl
theorem con51 : concT Tryd.prog 51 = true := by kernel_rfl
theorem fld51_0 : fieldT Tryd.prog 51 0 = some (true, 0, 5) := by kernel_rfl
theorem fld51_1 : fieldT Tryd.prog 51 1 = some (false, 5, 1) := by kernel_rfl
-- 52: []struct { t api.Term; want int }
theorem lay52 : layT Tryd.prog 52 = some (false, 1) := by kernel_rfl
theorem zer52 : zeroT Tryd.prog 52 = some [.own 0 []] := by kernel_rfl
theorem ele52 : elemT Tryd.prog 52 = some 6 := by kernel_rfl
theorem elz52 : elemZ Tryd.prog 52 = some (6, 80) := by kernel_rfl
theorem con52 : concT Tryd.prog 52 = true := by kernel_rfl
-- 53: func(uint8, uint8) bool
theorem lay53 : layT Tryd.prog 53 = some (false, 1) := by kernel_rfl
theorem zer53 : zeroT Tryd.prog 53 = some [.v (.prim .nilFunc)] := by kernel_rfl
theorem con53 : concT Tryd.prog 53 = true := by kernel_rfl
-- 54: struct { L []int; At int }
theorem lay54 : layT Tryd.prog 54 = some (true, 2) := by kernel_rfl
theorem zer54 : zeroT Tryd.prog 54 = some [.own 0 [], .v (.prim (.int .i64 (0)))] := by kernel_rfl
theorem pla54 : placesT Tryd.prog 54 = some [(0, 1), (1, 1)] := by kernel_rfl
theorem con54 : concT Tryd.prog 54 = true := by kernel_rfl
theorem fld54_0 : fieldT Tryd.prog 54 0 = some (false, 0, 1) := by kernel_rfl
theorem fld54_1 : fieldT Tryd.prog 54 1 = some (false, 1, 1) := by kernel_rfl
-- 55: proofprogramsmake.Deck
theorem lay55 : layT Tryd.prog 55 = some (true, 2) := by kernel_rfl
theorem zer55 : zeroT Tryd.prog 55 = some [.own 0 [], .v (.prim (.int .i64 (0)))] := by kernel_rfl
theorem pla55 : placesT Tryd.prog 55 = some [(0, 1), (1, 1)] := by kernel_rfl
theorem con55 : concT Tryd.prog 55 = true := by kernel_rfl
theorem fld55_0 : fieldT Tryd.prog 55 0 = some (false, 0, 1) := by kernel_rfl
theorem fld55_1 : fieldT Tryd.prog 55 1 = some (false, 1, 1) := by kernel_rfl
-- 56: func(int) int
theorem lay56 : layT Tryd.prog 56 = some (false, 1) := by kernel_rfl
theorem zer56 : zeroT Tryd.prog 56 = some [.v (.prim .nilFunc)] := by kernel_rfl
theorem con56 : concT Tryd.prog 56 = true := by kernel_rfl
-- 57: func() api.Type
theorem lay57 : layT Tryd.prog 57 = some (false, 1) := by kernel_rfl
theorem zer57 : zeroT Tryd.prog 57 = some [.v (.prim .nilFunc)] := by kernel_rfl
theorem con57 : concT Tryd.prog 57 = true := by kernel_rfl
-- 58: func([]api.Type, api.Type) []int
theorem lay58 : layT Tryd.prog 58 = some (false, 1) := by kernel_rfl
theorem zer58 : zeroT Tryd.prog 58 = some [.v (.prim .nilFunc)] := by kernel_rfl
theorem con58 : concT Tryd.prog 58 = true := by kernel_rfl
-- 59: func(int) api.Term
theorem lay59 : layT Tryd.prog 59 = some (false, 1) := by kernel_rfl
theorem zer59 : zeroT Tryd.prog 59 = some [.v (.prim .nilFunc)] := by kernel_rfl
theorem con59 : concT Tryd.prog 59 = true := by kernel_rfl
-- 60: func(*proofprogramsmake.Deck, int) api.Type
theorem lay60 : layT Tryd.prog 60 = some (false, 1) := by kernel_rfl
theorem zer60 : zeroT Tryd.prog 60 = some [.v (.prim .nilFunc)] := by kernel_rfl
theorem con60 : concT Tryd.prog 60 = true := by kernel_rfl
-- 61: func(int, api.Type, ...api.Term) api.Term
theorem lay61 : layT Tryd.prog 61 = some (false, 1) := by kernel_rfl
theorem zer61 : zeroT Tryd.prog 61 = some [.v (.prim .nilFunc)] := by kernel_rfl
theorem con61 : concT Tryd.prog 61 = true := by kernel_rfl
-- 62: func([]api.Type, ...api.Type) []api.Type
theorem lay62 : layT Tryd.prog 62 = some (false, 1) := by kernel_rfl
theorem zer62 : zeroT Tryd.prog 62 = some [.v (.prim .nilFunc)] := by kernel_rfl
theorem con62 : concT Tryd.prog 62 = true := by kernel_rfl
-- 63: func(api.Type, api.Type) bool
theorem lay63 : layT Tryd.prog 63 = some (false, 1) := by kernel_rfl
theorem zer63 : zeroT Tryd.prog 63 = some [.v (.prim .nilFunc)] := by kernel_rfl
theorem con63 : concT Tryd.prog 63 = true := by kernel_rfl
-- 64: func(api.Term, ...api.Term) api.Term
theorem lay64 : layT Tryd.prog 64 = some (false, 1) := by kernel_rfl
theorem zer64 : zeroT Tryd.prog 64 = some [.v (.prim .nilFunc)] := by kernel_rfl
theorem con64 : concT Tryd.prog 64 = true := by kernel_rfl
-- 65: func(api.Type) api.Type
theorem lay65 : layT Tryd.prog 65 = some (false, 1) := by kernel_rfl
theorem zer65 : zeroT Tryd.prog 65 = some [.v (.prim .nilFunc)] := by kernel_rfl
theorem con65 : concT Tryd.prog 65 = true := by kernel_rfl
-- 66: func(api.Value) api.Errno
theorem lay66 : layT Tryd.prog 66 = some (false, 1) := by kernel_rfl
theorem zer66 : zeroT Tryd.prog 66 = some [.v (.prim .nilFunc)] := by kernel_rfl
theorem con66 : concT Tryd.prog 66 = true := by kernel_rfl
-- 67: func(api.Value) int
theorem lay67 : layT Tryd.prog 67 = some (false, 1) := by kernel_rfl
theorem zer67 : zeroT Tryd.prog 67 = some [.v (.prim .nilFunc)] := by kernel_rfl
theorem con67 : concT Tryd.prog 67 = true := by kernel_rfl
-- 68: func(api.Value) api.Term
theorem lay68 : layT Tryd.prog 68 = some (false, 1) := by kernel_rfl
theorem zer68 : zeroT Tryd.prog 68 = some [.v (.prim .nilFunc)] := by kernel_rfl
theorem con68 : concT Tryd.prog 68 = true := by kernel_rfl
-- 69: (api.Type, api.Errno)
theorem lay69 : layT Tryd.prog 69 = some (false, 1) := by kernel_rfl
theorem con69 : concT Tryd.prog 69 = true := by kernel_rfl
-- 70: func([]api.Type, api.Term) (api.Type, api.Errno)
theorem lay70 : layT Tryd.prog 70 = some (false, 1) := by kernel_rfl
theorem zer70 : zeroT Tryd.prog 70 = some [.v (.prim .nilFunc)] := by kernel_rfl
theorem con70 : concT Tryd.prog 70 = true := by kernel_rfl
-- 71: []machine.thing
theorem lay71 : layT Tryd.prog 71 = some (false, 1) := by kernel_rfl
theorem zer71 : zeroT Tryd.prog 71 = some [.own 0 []] := by kernel_rfl
theorem ele71 : elemT Tryd.prog 71 = some 1 := by kernel_rfl
theorem elz71 : elemZ Tryd.prog 71 = some (1, 16) := by kernel_rfl
theorem con71 : concT Tryd.prog 71 = true := by kernel_rfl
-- 72: func(api.Value) (api.Type, api.Errno)
theorem lay72 : layT Tryd.prog 72 = some (false, 1) := by kernel_rfl
theorem zer72 : zeroT Tryd.prog 72 = some [.v (.prim .nilFunc)] := by kernel_rfl
theorem con72 : concT Tryd.prog 72 = true := by kernel_rfl
-- 73: machine.thing
theorem lay73 : layT Tryd.prog 73 = some (false, 1) := by kernel_rfl
theorem zer73 : zeroT Tryd.prog 73 = some [.v (.prim .nilIface)] := by kernel_rfl
-- 74: func(api.Value) machine.thing
theorem lay74 : layT Tryd.prog 74 = some (false, 1) := by kernel_rfl
theorem zer74 : zeroT Tryd.prog 74 = some [.v (.prim .nilFunc)] := by kernel_rfl
theorem con74 : concT Tryd.prog 74 = true := by kernel_rfl
-- 75: (bool, api.Errno)
theorem lay75 : layT Tryd.prog 75 = some (false, 1) := by kernel_rfl
theorem con75 : concT Tryd.prog 75 = true := by kernel_rfl
-- 76: func(api.Type) (bool, api.Errno)
theorem lay76 : layT Tryd.prog 76 = some (false, 1) := by kernel_rfl
theorem zer76 : zeroT Tryd.prog 76 = some [.v (.prim .nilFunc)] := by kernel_rfl
theorem con76 : concT Tryd.prog 76 = true := by kernel_rfl
-- 77: *machine.machine
theorem lay77 : layT Tryd.prog 77 = some (false, 1) := by kernel_rfl
theorem zer77 : zeroT Tryd.prog 77 = some [.v (.prim (.pointer none))] := by kernel_rfl
theorem ptr77 : ptrT Tryd.prog 77 = true := by kernel_rfl
theorem zrp77 : zeroP Tryd.prog 77 = some (.pointer none) := by kernel_rfl
theorem con77 : concT Tryd.prog 77 = true := by kernel_rfl
-- 78: struct { work int; limit int }
theorem lay78 : layT Tryd.prog 78 = some (true, 2) := by kernel_rfl
theorem zer78 : zeroT Tryd.prog 78 = some [.v (.prim (.int .i64 (0))), .v (.prim (.int .i64 (0)))] := by kernel_rfl
theorem pla78 : placesT Tryd.prog 78 = some [(0, 1), (1, 1)] := by kernel_rfl
theorem con78 : concT Tryd.prog 78 = true := by kernel_rfl
theorem fld78_0 : fieldT Tryd.prog 78 0 = some (false, 0, 1) := by kernel_rfl
theorem fld78_1 : fieldT Tryd.prog 78 1 = some (false, 1, 1) := by kernel_rfl
-- 79: machine.machine
theorem lay79 : layT Tryd.prog 79 = some (true, 2) := by kernel_rfl
theorem zer79 : zeroT Tryd.prog 79 = some [.v (.prim (.int .i64 (0))), .v (.prim (.int .i64 (0)))] := by kernel_rfl
theorem pla79 : placesT Tryd.prog 79 = some [(0, 1), (1, 1)] := by kernel_rfl
theorem con79 : concT Tryd.prog 79 = true := by kernel_rfl
theorem fld79_0 : fieldT Tryd.prog 79 0 = some (false, 0, 1) := by kernel_rfl
theorem fld79_1 : fieldT Tryd.prog 79 1 = some (false, 1, 1) := by kernel_rfl
-- 80: (machine.thing, bool)
theorem lay80 : layT Tryd.prog 80 = some (false, 1) := by kernel_rfl
theorem con80 : concT Tryd.prog 80 = true := by kernel_rfl
-- 81: func(api.Term, *machine.env) (machine.thing, bool)
theorem lay81 : layT Tryd.prog 81 = some (false, 1) := by kernel_rfl
theorem zer81 : zeroT Tryd.prog 81 = some [.v (.prim .nilFunc)] := by kernel_rfl
theorem con81 : concT Tryd.prog 81 = true := by kernel_rfl
-- 82: func(machine.thing, ...machine.thing) (machine.thing, bool)
theorem lay82 : layT Tryd.prog 82 = some (false, 1) := by kernel_rfl
theorem zer82 : zeroT Tryd.prog 82 = some [.v (.prim .nilFunc)] := by kernel_rfl
theorem con82 : concT Tryd.prog 82 = true := by kernel_rfl
-- 83: func(machine.thing) api.Value
theorem lay83 : layT Tryd.prog 83 = some (false, 1) := by kernel_rfl
theorem zer83 : zeroT Tryd.prog 83 = some [.v (.prim .nilFunc)] := by kernel_rfl
theorem con83 : concT Tryd.prog 83 = true := by kernel_rfl
-- 84: func(api.Term) api.Term
theorem lay84 : layT Tryd.prog 84 = some (false, 1) := by kernel_rfl
theorem zer84 : zeroT Tryd.prog 84 = some [.v (.prim .nilFunc)] := by kernel_rfl
theorem con84 : concT Tryd.prog 84 = true := by kernel_rfl
-- 85: func([]int, []int) bool
theorem lay85 : layT Tryd.prog 85 = some (false, 1) := by kernel_rfl
theorem zer85 : zeroT Tryd.prog 85 = some [.v (.prim .nilFunc)] := by kernel_rfl
theorem con85 : concT Tryd.prog 85 = true := by kernel_rfl
-- 86: func(api.Term, api.Term, api.Term) api.Term
theorem lay86 : layT Tryd.prog 86 = some (false, 1) := by kernel_rfl
theorem zer86 : zeroT Tryd.prog 86 = some [.v (.prim .nilFunc)] := by kernel_rfl
theorem con86 : concT Tryd.prog 86 = true := by kernel_rfl
-- 87: func(int, int) int
theorem lay87 : layT Tryd.prog 87 = some (false, 1) := by kernel_rfl
theorem zer87 : zeroT Tryd.prog 87 = some [.v (.prim .nilFunc)] := by kernel_rfl
theorem con87 : concT Tryd.prog 87 = true := by kernel_rfl
-- 88: func(int) (api.Term, api.Errno)
theorem lay88 : layT Tryd.prog 88 = some (false, 1) := by kernel_rfl
theorem zer88 : zeroT Tryd.prog 88 = some [.v (.prim .nilFunc)] := by kernel_rfl
theorem con88 : concT Tryd.prog 88 = true := by kernel_rfl
-- 89: func(api.Value) bool
theorem lay89 : layT Tryd.prog 89 = some (false, 1) := by kernel_rfl
theorem zer89 : zeroT Tryd.prog 89 = some [.v (.prim .nilFunc)] := by kernel_rfl
theorem con89 : concT Tryd.prog 89 = true := by kernel_rfl
-- 90: func([]api.Type) api.Errno
theorem lay90 : layT Tryd.prog 90 = some (false, 1) := by kernel_rfl
theorem zer90 : zeroT Tryd.prog 90 = some [.v (.prim .nilFunc)] := by kernel_rfl
theorem con90 : concT Tryd.prog 90 = true := by kernel_rfl
-- 91: func(api.Term) api.Errno
theorem lay91 : layT Tryd.prog 91 = some (false, 1) := by kernel_rfl
theorem zer91 : zeroT Tryd.prog 91 = some [.v (.prim .nilFunc)] := by kernel_rfl
theorem con91 : concT Tryd.prog 91 = true := by kernel_rfl
-- 92: struct { api.Type; nodes int }
theorem lay92 : layT Tryd.prog 92 = some (true, 3) := by kernel_rfl
theorem zer92 : zeroT Tryd.prog 92 = some [.v (.prim (.int .i64 (0))), .own 0 [], .v (.prim (.int .i64 (0)))] := by kernel_rfl
theorem pla92 : placesT Tryd.prog 92 = some [(0, 2), (2, 1)] := by kernel_rfl
theorem con92 : concT Tryd.prog 92 = true := by kernel_rfl
theorem fld92_0 : fieldT Tryd.prog 92 0 = some (true, 0, 2) := by kernel_rfl
theorem fld92_1 : fieldT Tryd.prog 92 1 = some (false, 2, 1) := by kernel_rfl
-- 93: typing.Sized
theorem lay93 : layT Tryd.prog 93 = some (true, 3) := by kernel_rfl
theorem zer93 : zeroT Tryd.prog 93 = some [.v (.prim (.int .i64 (0))), .own 0 [], .v (.prim (.int .i64 (0)))] := by kernel_rfl
theorem pla93 : placesT Tryd.prog 93 = some [(0, 2), (2, 1)] := by kernel_rfl
theorem con93 : concT Tryd.prog 93 = true := by kernel_rfl
theorem fld93_0 : fieldT Tryd.prog 93 0 = some (true, 0, 2) := by kernel_rfl
theorem fld93_1 : fieldT Tryd.prog 93 1 = some (false, 2, 1) := by kernel_rfl
-- 94: (typing.Sized, api.Errno)
theorem lay94 : layT Tryd.prog 94 = some (false, 1) := by kernel_rfl
theorem con94 : concT Tryd.prog 94 = true := by kernel_rfl
-- 95: []typing.Sized
theorem lay95 : layT Tryd.prog 95 = some (false, 1) := by kernel_rfl
theorem zer95 : zeroT Tryd.prog 95 = some [.own 0 []] := by kernel_rfl
theorem ele95 : elemT Tryd.prog 95 = some 3 := by kernel_rfl
theorem elz95 : elemZ Tryd.prog 95 = some (3, 40) := by kernel_rfl
theorem con95 : concT Tryd.prog 95 = true := by kernel_rfl
-- 96: typing.Context
theorem lay96 : layT Tryd.prog 96 = some (false, 1) := by kernel_rfl
theorem zer96 : zeroT Tryd.prog 96 = some [.own 0 []] := by kernel_rfl
theorem ele96 : elemT Tryd.prog 96 = some 3 := by kernel_rfl
theorem elz96 : elemZ Tryd.prog 96 = some (3, 40) := by kernel_rfl
theorem con96 : concT Tryd.prog 96 = true := by kernel_rfl
-- 97: func([]api.Type) typing.Context
theorem lay97 : layT Tryd.prog 97 = some (false, 1) := by kernel_rfl
theorem zer97 : zeroT Tryd.prog 97 = some [.v (.prim .nilFunc)] := by kernel_rfl
theorem con97 : concT Tryd.prog 97 = true := by kernel_rfl
-- 98: func(api.Term) (typing.Sized, api.Errno)
theorem lay98 : layT Tryd.prog 98 = some (false, 1) := by kernel_rfl
theorem zer98 : zeroT Tryd.prog 98 = some [.v (.prim .nilFunc)] := by kernel_rfl
theorem con98 : concT Tryd.prog 98 = true := by kernel_rfl
-- 99: func(api.Value) api.Type
theorem lay99 : layT Tryd.prog 99 = some (false, 1) := by kernel_rfl
theorem zer99 : zeroT Tryd.prog 99 = some [.v (.prim .nilFunc)] := by kernel_rfl
theorem con99 : concT Tryd.prog 99 = true := by kernel_rfl
-- 100: *machine.cell
theorem lay100 : layT Tryd.prog 100 = some (false, 1) := by kernel_rfl
theorem zer100 : zeroT Tryd.prog 100 = some [.v (.prim (.pointer none))] := by kernel_rfl
theorem ptr100 : ptrT Tryd.prog 100 = true := by kernel_rfl
theorem zrp100 : zeroP Tryd.prog 100 = some (.pointer none) := by kernel_rfl
theorem con100 : concT Tryd.prog 100 = true := by kernel_rfl
-- 101: func(func(int, int) bool)
theorem lay101 : layT Tryd.prog 101 = some (false, 1) := by kernel_rfl
theorem zer101 : zeroT Tryd.prog 101 = some [.v (.prim .nilFunc)] := by kernel_rfl
theorem con101 : concT Tryd.prog 101 = true := by kernel_rfl
-- 102: iter.Seq2[int,int]
theorem lay102 : layT Tryd.prog 102 = some (false, 1) := by kernel_rfl
theorem zer102 : zeroT Tryd.prog 102 = some [.v (.prim .nilFunc)] := by kernel_rfl
theorem con102 : concT Tryd.prog 102 = true := by kernel_rfl
-- 103: func([]int) iter.Seq2[int,int]
theorem lay103 : layT Tryd.prog 103 = some (false, 1) := by kernel_rfl
theorem zer103 : zeroT Tryd.prog 103 = some [.v (.prim .nilFunc)] := by kernel_rfl
theorem con103 : concT Tryd.prog 103 = true := by kernel_rfl
-- 104: struct { head int; tail *machine.cell }
theorem lay104 : layT Tryd.prog 104 = some (true, 2) := by kernel_rfl
theorem zer104 : zeroT Tryd.prog 104 = some [.v (.prim (.int .i64 (0))), .v (.prim (.pointer none))] := by kernel_rfl
theorem pla104 : placesT Tryd.prog 104 = some [(0, 1), (1, 1)] := by kernel_rfl
theorem con104 : concT Tryd.prog 104 = true := by kernel_rfl
theorem fld104_0 : fieldT Tryd.prog 104 0 = some (false, 0, 1) := by kernel_rfl
theorem fld104_1 : fieldT Tryd.prog 104 1 = some (false, 1, 1) := by kernel_rfl
-- 105: machine.cell
theorem lay105 : layT Tryd.prog 105 = some (true, 2) := by kernel_rfl
theorem zer105 : zeroT Tryd.prog 105 = some [.v (.prim (.int .i64 (0))), .v (.prim (.pointer none))] := by kernel_rfl
theorem pla105 : placesT Tryd.prog 105 = some [(0, 1), (1, 1)] := by kernel_rfl
theorem con105 : concT Tryd.prog 105 = true := by kernel_rfl
theorem fld105_0 : fieldT Tryd.prog 105 0 = some (false, 0, 1) := by kernel_rfl
theorem fld105_1 : fieldT Tryd.prog 105 1 = some (false, 1, 1) := by kernel_rfl
-- 106: *machine.both
theorem lay106 : layT Tryd.prog 106 = some (false, 1) := by kernel_rfl
theorem zer106 : zeroT Tryd.prog 106 = some [.v (.prim (.pointer none))] := by kernel_rfl
theorem ptr106 : ptrT Tryd.prog 106 = true := by kernel_rfl
theorem zrp106 : zeroP Tryd.prog 106 = some (.pointer none) := by kernel_rfl
theorem con106 : concT Tryd.prog 106 = true := by kernel_rfl
-- 107: struct { first machine.thing; second machine.thing }
theorem lay107 : layT Tryd.prog 107 = some (true, 2) := by kernel_rfl
theorem zer107 : zeroT Tryd.prog 107 = some [.v (.prim .nilIface), .v (.prim .nilIface)] := by kernel_rfl
theorem pla107 : placesT Tryd.prog 107 = some [(0, 1), (1, 1)] := by kernel_rfl
theorem con107 : concT Tryd.prog 107 = true := by kernel_rfl
theorem fld107_0 : fieldT Tryd.prog 107 0 = some (false, 0, 1) := by kernel_rfl
theorem fld107_1 : fieldT Tryd.prog 107 1 = some (false, 1, 1) := by kernel_rfl
-- 108: machine.both
theorem lay108 : layT Tryd.prog 108 = some (true, 2) := by kernel_rfl
theorem zer108 : zeroT Tryd.prog 108 = some [.v (.prim .nilIface), .v (.prim .nilIface)] := by kernel_rfl
theorem pla108 : placesT Tryd.prog 108 = some [(0, 1), (1, 1)] := by kernel_rfl
theorem con108 : concT Tryd.prog 108 = true := by kernel_rfl
theorem fld108_0 : fieldT Tryd.prog 108 0 = some (false, 0, 1) := by kernel_rfl
theorem fld108_1 : fieldT Tryd.prog 108 1 = some (false, 1, 1) := by kernel_rfl
-- 109: struct {}
theorem lay109 : layT Tryd.prog 109 = some (true, 0) := by kernel_rfl
theorem zer109 : zeroT Tryd.prog 109 = some [] := by kernel_rfl
theorem pla109 : placesT Tryd.prog 109 = some [] := by kernel_rfl
theorem con109 : concT Tryd.prog 109 = true := by kernel_rfl
-- 110: machine.unit
theorem lay110 : layT Tryd.prog 110 = some (true, 0) := by kernel_rfl
theorem zer110 : zeroT Tryd.prog 110 = some [] := by kernel_rfl
theorem pla110 : placesT Tryd.prog 110 = some [] := by kernel_rfl
theorem con110 : concT Tryd.prog 110 = true := by kernel_rfl
-- 111: func(api.Type) api.Errno
theorem lay111 : layT Tryd.prog 111 = some (false, 1) := by kernel_rfl
theorem zer111 : zeroT Tryd.prog 111 = some [.v (.prim .nilFunc)] := by kernel_rfl
theorem con111 : concT Tryd.prog 111 = true := by kernel_rfl
-- 112: func(func(api.Type) bool)
theorem lay112 : layT Tryd.prog 112 = some (false, 1) := by kernel_rfl
theorem zer112 : zeroT Tryd.prog 112 = some [.v (.prim .nilFunc)] := by kernel_rfl
theorem con112 : concT Tryd.prog 112 = true := by kernel_rfl
-- 113: iter.Seq[proofprograms/api.Type]
theorem lay113 : layT Tryd.prog 113 = some (false, 1) := by kernel_rfl
theorem zer113 : zeroT Tryd.prog 113 = some [.v (.prim .nilFunc)] := by kernel_rfl
theorem con113 : concT Tryd.prog 113 = true := by kernel_rfl
-- 114: func(api.Type) iter.Seq[proofprograms/api.Type]
theorem lay114 : layT Tryd.prog 114 = some (false, 1) := by kernel_rfl
theorem zer114 : zeroT Tryd.prog 114 = some [.v (.prim .nilFunc)] := by kernel_rfl
theorem con114 : concT Tryd.prog 114 = true := by kernel_rfl
-- 115: *machine.env
theorem lay115 : layT Tryd.prog 115 = some (false, 1) := by kernel_rfl
theorem zer115 : zeroT Tryd.prog 115 = some [.v (.prim (.pointer none))] := by kernel_rfl
theorem ptr115 : ptrT Tryd.prog 115 = true := by kernel_rfl
theorem zrp115 : zeroP Tryd.prog 115 = some (.pointer none) := by kernel_rfl
theorem con115 : concT Tryd.prog 115 = true := by kernel_rfl
-- 116: func(int) machine.thing
theorem lay116 : layT Tryd.prog 116 = some (false, 1) := by kernel_rfl
theorem zer116 : zeroT Tryd.prog 116 = some [.v (.prim .nilFunc)] := by kernel_rfl
theorem con116 : concT Tryd.prog 116 = true := by kernel_rfl
-- 117: *machine.closure
theorem lay117 : layT Tryd.prog 117 = some (false, 1) := by kernel_rfl
theorem zer117 : zeroT Tryd.prog 117 = some [.v (.prim (.pointer none))] := by kernel_rfl
theorem ptr117 : ptrT Tryd.prog 117 = true := by kernel_rfl
theorem zrp117 : zeroP Tryd.prog 117 = some (.pointer none) := by kernel_rfl
theorem con117 : concT Tryd.prog 117 = true := by kernel_rfl
-- 118: struct { body api.Term; env *machine.env }
theorem lay118 : layT Tryd.prog 118 = some (true, 6) := by kernel_rfl
theorem zer118 : zeroT Tryd.prog 118 = some [.v (.prim (.int .i64 (0))), .v (.prim (.int .i64 (0))), .v (.prim (.int .i64 (0))), .own 0 [], .own 0 [], .v (.prim (.pointer none))] := by kernel_rfl
theorem pla118 : placesT Tryd.prog 118 = some [(0, 5), (5, 1)] := by kernel_rfl
theorem con118 : concT Tryd.prog 118 = true := by kernel_rfl
theorem fld118_0 : fieldT Tryd.prog 118 0 = some (true, 0, 5) := by kernel_rfl
theorem fld118_1 : fieldT Tryd.prog 118 1 = some (false, 5, 1) := by kernel_rfl
-- 119: machine.closure
theorem lay119 : layT Tryd.prog 119 = some (true, 6) := by kernel_rfl
theorem zer119 : zeroT Tryd.prog 119 = some [.v (.prim (.int .i64 (0))), .v (.prim (.int .i64 (0))), .v (.prim (.int .i64 (0))), .own 0 [], .own 0 [], .v (.prim (.pointer none))] := by kernel_rfl
theorem pla119 : placesT Tryd.prog 119 = some [(0, 5), (5, 1)] := by kernel_rfl
theorem con119 : concT Tryd.prog 119 = true := by kernel_rfl
theorem fld119_0 : fieldT Tryd.prog 119 0 = some (true, 0, 5) := by kernel_rfl
theorem fld119_1 : fieldT Tryd.prog 119 1 = some (false, 5, 1) := by kernel_rfl
-- 120: [3]machine.thing
theorem lay120 : layT Tryd.prog 120 = some (true, 3) := by kernel_rfl
theorem zer120 : zeroT Tryd.prog 120 = some [.v (.prim .nilIface), .v (.prim .nilIface), .v (.prim .nilIface)] := by kernel_rfl
theorem eln120 : elemT Tryd.prog 120 = none := by kernel_rfl
theorem arr120 : arrT Tryd.prog 120 = some (3, 1) := by kernel_rfl
theorem pla120 : placesT Tryd.prog 120 = some [(0, 1), (1, 1), (2, 1)] := by kernel_rfl
theorem con120 : concT Tryd.prog 120 = true := by kernel_rfl
-- 121: ([3]machine.thing, bool)
theorem lay121 : layT Tryd.prog 121 = some (false, 1) := by kernel_rfl
theorem con121 : concT Tryd.prog 121 = true := by kernel_rfl
-- 122: func([]api.Term, *machine.env) ([3]machine.thing, bool)
theorem lay122 : layT Tryd.prog 122 = some (false, 1) := by kernel_rfl
theorem zer122 : zeroT Tryd.prog 122 = some [.v (.prim .nilFunc)] := by kernel_rfl
theorem con122 : concT Tryd.prog 122 = true := by kernel_rfl
-- 123: func([3]machine.thing) (machine.thing, bool)
theorem lay123 : layT Tryd.prog 123 = some (false, 1) := by kernel_rfl
theorem zer123 : zeroT Tryd.prog 123 = some [.v (.prim .nilFunc)] := by kernel_rfl
theorem con123 : concT Tryd.prog 123 = true := by kernel_rfl
-- 124: struct { value machine.thing; next *machine.env }
theorem lay124 : layT Tryd.prog 124 = some (true, 2) := by kernel_rfl
theorem zer124 : zeroT Tryd.prog 124 = some [.v (.prim .nilIface), .v (.prim (.pointer none))] := by kernel_rfl
theorem pla124 : placesT Tryd.prog 124 = some [(0, 1), (1, 1)] := by kernel_rfl
theorem con124 : concT Tryd.prog 124 = true := by kernel_rfl
theorem fld124_0 : fieldT Tryd.prog 124 0 = some (false, 0, 1) := by kernel_rfl
theorem fld124_1 : fieldT Tryd.prog 124 1 = some (false, 1, 1) := by kernel_rfl
-- 125: machine.env
theorem lay125 : layT Tryd.prog 125 = some (true, 2) := by kernel_rfl
theorem zer125 : zeroT Tryd.prog 125 = some [.v (.prim .nilIface), .v (.prim (.pointer none))] := by kernel_rfl
theorem pla125 : placesT Tryd.prog 125 = some [(0, 1), (1, 1)] := by kernel_rfl
theorem con125 : concT Tryd.prog 125 = true := by kernel_rfl
theorem fld125_0 : fieldT Tryd.prog 125 0 = some (false, 0, 1) := by kernel_rfl
theorem fld125_1 : fieldT Tryd.prog 125 1 = some (false, 1, 1) := by kernel_rfl
-- 126: (int, api.Errno)
theorem lay126 : layT Tryd.prog 126 = some (false, 1) := by kernel_rfl
theorem con126 : concT Tryd.prog 126 = true := by kernel_rfl
-- 127: func(api.Term) (int, api.Errno)
theorem lay127 : layT Tryd.prog 127 = some (false, 1) := by kernel_rfl
theorem zer127 : zeroT Tryd.prog 127 = some [.v (.prim .nilFunc)] := by kernel_rfl
theorem con127 : concT Tryd.prog 127 = true := by kernel_rfl
-- 128: func(api.Type) typing.Sized
theorem lay128 : layT Tryd.prog 128 = some (false, 1) := by kernel_rfl
theorem zer128 : zeroT Tryd.prog 128 = some [.v (.prim .nilFunc)] := by kernel_rfl
theorem con128 : concT Tryd.prog 128 = true := by kernel_rfl
-- 129: func(int, typing.Sized, typing.Sized) (typing.Sized, api.Errno)
theorem lay129 : layT Tryd.prog 129 = some (false, 1) := by kernel_rfl
theorem zer129 : zeroT Tryd.prog 129 = some [.v (.prim .nilFunc)] := by kernel_rfl
theorem con129 : concT Tryd.prog 129 = true := by kernel_rfl
-- 130: [3]typing.Sized
theorem lay130 : layT Tryd.prog 130 = some (true, 9) := by kernel_rfl
theorem zer130 : zeroT Tryd.prog 130 = some [.v (.prim (.int .i64 (0))), .own 0 [], .v (.prim (.int .i64 (0))), .v (.prim (.int .i64 (0))), .own 0 [], .v (.prim (.int .i64 (0))), .v (.prim (.int .i64 (0))), .own 0 [], .v (.prim (.int .i64 (0)))] := by kernel_rfl
theorem eln130 : elemT Tryd.prog 130 = none := by kernel_rfl
theorem arr130 : arrT Tryd.prog 130 = some (3, 3) := by kernel_rfl
theorem pla130 : placesT Tryd.prog 130 = some [(0, 3), (3, 3), (6, 3)] := by kernel_rfl
theorem con130 : concT Tryd.prog 130 = true := by kernel_rfl
-- 131: func(api.Term, [3]typing.Sized) (typing.Sized, api.Errno)
theorem lay131 : layT Tryd.prog 131 = some (false, 1) := by kernel_rfl
theorem zer131 : zeroT Tryd.prog 131 = some [.v (.prim .nilFunc)] := by kernel_rfl
theorem con131 : concT Tryd.prog 131 = true := by kernel_rfl
-- 132: (int, bool)
theorem lay132 : layT Tryd.prog 132 = some (false, 1) := by kernel_rfl
theorem con132 : concT Tryd.prog 132 = true := by kernel_rfl
-- 133: func(api.Value) (int, bool)
theorem lay133 : layT Tryd.prog 133 = some (false, 1) := by kernel_rfl
theorem zer133 : zeroT Tryd.prog 133 = some [.v (.prim .nilFunc)] := by kernel_rfl
theorem con133 : concT Tryd.prog 133 = true := by kernel_rfl
-- 134: func(int, int) bool
theorem lay134 : layT Tryd.prog 134 = some (false, 1) := by kernel_rfl
theorem zer134 : zeroT Tryd.prog 134 = some [.v (.prim .nilFunc)] := by kernel_rfl
theorem con134 : concT Tryd.prog 134 = true := by kernel_rfl
-- 135: func(api.Type) (int, api.Errno)
theorem lay135 : layT Tryd.prog 135 = some (false, 1) := by kernel_rfl
theorem zer135 : zeroT Tryd.prog 135 = some [.v (.prim .nilFunc)] := by kernel_rfl
theorem con135 : concT Tryd.prog 135 = true := by kernel_rfl
-- 136: func(api.Type) bool
theorem lay136 : layT Tryd.prog 136 = some (false, 1) := by kernel_rfl
theorem zer136 : zeroT Tryd.prog 136 = some [.v (.prim .nilFunc)] := by kernel_rfl
theorem con136 : concT Tryd.prog 136 = true := by kernel_rfl
-- 137: []*machine.cell
theorem lay137 : layT Tryd.prog 137 = some (false, 1) := by kernel_rfl
theorem zer137 : zeroT Tryd.prog 137 = some [.own 0 []] := by kernel_rfl
theorem ele137 : elemT Tryd.prog 137 = some 1 := by kernel_rfl
theorem elz137 : elemZ Tryd.prog 137 = some (1, 8) := by kernel_rfl
theorem con137 : concT Tryd.prog 137 = true := by kernel_rfl
-- 138: func(func(int, *machine.cell) bool)
theorem lay138 : layT Tryd.prog 138 = some (false, 1) := by kernel_rfl
theorem zer138 : zeroT Tryd.prog 138 = some [.v (.prim .nilFunc)] := by kernel_rfl
theorem con138 : concT Tryd.prog 138 = true := by kernel_rfl
-- 139: iter.Seq2[int,*proofprograms/machine.cell]
theorem lay139 : layT Tryd.prog 139 = some (false, 1) := by kernel_rfl
theorem zer139 : zeroT Tryd.prog 139 = some [.v (.prim .nilFunc)] := by kernel_rfl
theorem con139 : concT Tryd.prog 139 = true := by kernel_rfl
-- 140: func([]*machine.cell) iter.Seq2[int,*proofprograms/machine.cell]
theorem lay140 : layT Tryd.prog 140 = some (false, 1) := by kernel_rfl
theorem zer140 : zeroT Tryd.prog 140 = some [.v (.prim .nilFunc)] := by kernel_rfl
theorem con140 : concT Tryd.prog 140 = true := by kernel_rfl
-- 141: func(api.Term) (int, bool)
theorem lay141 : layT Tryd.prog 141 = some (false, 1) := by kernel_rfl
theorem zer141 : zeroT Tryd.prog 141 = some [.v (.prim .nilFunc)] := by kernel_rfl
theorem con141 : concT Tryd.prog 141 = true := by kernel_rfl
-- 142: func(int) []int
theorem lay142 : layT Tryd.prog 142 = some (false, 1) := by kernel_rfl
theorem zer142 : zeroT Tryd.prog 142 = some [.v (.prim .nilFunc)] := by kernel_rfl
theorem con142 : concT Tryd.prog 142 = true := by kernel_rfl
-- 143: func(int) bool
theorem lay143 : layT Tryd.prog 143 = some (false, 1) := by kernel_rfl
theorem zer143 : zeroT Tryd.prog 143 = some [.v (.prim .nilFunc)] := by kernel_rfl
theorem con143 : concT Tryd.prog 143 = true := by kernel_rfl
-- 144: func(int) typing.Sized
theorem lay144 : layT Tryd.prog 144 = some (false, 1) := by kernel_rfl
theorem zer144 : zeroT Tryd.prog 144 = some [.v (.prim .nilFunc)] := by kernel_rfl
theorem con144 : concT Tryd.prog 144 = true := by kernel_rfl
-- 145: func(typing.Sized) bool
theorem lay145 : layT Tryd.prog 145 = some (false, 1) := by kernel_rfl
theorem zer145 : zeroT Tryd.prog 145 = some [.v (.prim .nilFunc)] := by kernel_rfl
theorem con145 : concT Tryd.prog 145 = true := by kernel_rfl
-- 146: func(api.Term) api.Type
theorem lay146 : layT Tryd.prog 146 = some (false, 1) := by kernel_rfl
theorem zer146 : zeroT Tryd.prog 146 = some [.v (.prim .nilFunc)] := by kernel_rfl
theorem con146 : concT Tryd.prog 146 = true := by kernel_rfl
-- 147: func([]int, func(int) bool) bool
theorem lay147 : layT Tryd.prog 147 = some (false, 1) := by kernel_rfl
theorem zer147 : zeroT Tryd.prog 147 = some [.v (.prim .nilFunc)] := by kernel_rfl
theorem con147 : concT Tryd.prog 147 = true := by kernel_rfl
-- 148: func(api.Type) (int, bool)
theorem lay148 : layT Tryd.prog 148 = some (false, 1) := by kernel_rfl
theorem zer148 : zeroT Tryd.prog 148 = some [.v (.prim .nilFunc)] := by kernel_rfl
theorem con148 : concT Tryd.prog 148 = true := by kernel_rfl
-- 149: func(int, *machine.cell) bool
theorem lay149 : layT Tryd.prog 149 = some (false, 1) := by kernel_rfl
theorem zer149 : zeroT Tryd.prog 149 = some [.v (.prim .nilFunc)] := by kernel_rfl
theorem con149 : concT Tryd.prog 149 = true := by kernel_rfl
-- 150: func(int) (int, bool)
theorem lay150 : layT Tryd.prog 150 = some (false, 1) := by kernel_rfl
theorem zer150 : zeroT Tryd.prog 150 = some [.v (.prim .nilFunc)] := by kernel_rfl
theorem con150 : concT Tryd.prog 150 = true := by kernel_rfl
-- 151: func(api.Type, ...api.Type) api.Type
theorem lay151 : layT Tryd.prog 151 = some (false, 1) := by kernel_rfl
theorem zer151 : zeroT Tryd.prog 151 = some [.v (.prim .nilFunc)] := by kernel_rfl
theorem con151 : concT Tryd.prog 151 = true := by kernel_rfl
-- 152: func([]int, func(int) bool) int
theorem lay152 : layT Tryd.prog 152 = some (false, 1) := by kernel_rfl
theorem zer152 : zeroT Tryd.prog 152 = some [.v (.prim .nilFunc)] := by kernel_rfl
theorem con152 : concT Tryd.prog 152 = true := by kernel_rfl
-- 153: [14]int
theorem lay153 : layT Tryd.prog 153 = some (true, 14) := by kernel_rfl
theorem zer153 : zeroT Tryd.prog 153 = some [.v (.prim (.int .i64 (0))), .v (.prim (.int .i64 (0))), .v (.prim (.int .i64 (0))), .v (.prim (.int .i64 (0))), .v (.prim (.int .i64 (0))), .v (.prim (.int .i64 (0))), .v (.prim (.int .i64 (0))), .v (.prim (.int .i64 (0))), .v (.prim (.int .i64 (0))), .v (.prim (.int .i64 (0))), .v (.prim (.int .i64 (0))), .v (.prim (.int .i64 (0))), .v (.prim (.int .i64 (0))), .v (.prim (.int .i64 (0)))] := by kernel_rfl
theorem eln153 : elemT Tryd.prog 153 = none := by kernel_rfl
theorem arr153 : arrT Tryd.prog 153 = some (14, 1) := by kernel_rfl
theorem pla153 : placesT Tryd.prog 153 = some [(0, 1), (1, 1), (2, 1), (3, 1), (4, 1), (5, 1), (6, 1), (7, 1), (8, 1), (9, 1), (10, 1), (11, 1), (12, 1), (13, 1)] := by kernel_rfl
theorem con153 : concT Tryd.prog 153 = true := by kernel_rfl
-- 154: func() string
theorem lay154 : layT Tryd.prog 154 = some (false, 1) := by kernel_rfl
theorem zer154 : zeroT Tryd.prog 154 = some [.v (.prim .nilFunc)] := by kernel_rfl
theorem con154 : concT Tryd.prog 154 = true := by kernel_rfl
-- 155: struct { _interface *abi.Type; concrete *abi.Type; asserted *abi.Type; missingMethod string }
theorem lay155 : layT Tryd.prog 155 = some (true, 4) := by kernel_rfl
theorem zer155 : zeroT Tryd.prog 155 = some [.v (.prim (.pointer none)), .v (.prim (.pointer none)), .v (.prim (.pointer none)), .v (.prim (.string ByteArray.empty))] := by kernel_rfl
theorem pla155 : placesT Tryd.prog 155 = some [(0, 1), (1, 1), (2, 1), (3, 1)] := by kernel_rfl
theorem con155 : concT Tryd.prog 155 = true := by kernel_rfl
theorem fld155_0 : fieldT Tryd.prog 155 0 = some (false, 0, 1) := by kernel_rfl
theorem fld155_1 : fieldT Tryd.prog 155 1 = some (false, 1, 1) := by kernel_rfl
theorem fld155_2 : fieldT Tryd.prog 155 2 = some (false, 2, 1) := by kernel_rfl
theorem fld155_3 : fieldT Tryd.prog 155 3 = some (false, 3, 1) := by kernel_rfl
-- 156: runtime.TypeAssertionError
theorem lay156 : layT Tryd.prog 156 = some (true, 4) := by kernel_rfl
theorem zer156 : zeroT Tryd.prog 156 = some [.v (.prim (.pointer none)), .v (.prim (.pointer none)), .v (.prim (.pointer none)), .v (.prim (.string ByteArray.empty))] := by kernel_rfl
theorem pla156 : placesT Tryd.prog 156 = some [(0, 1), (1, 1), (2, 1), (3, 1)] := by kernel_rfl
theorem con156 : concT Tryd.prog 156 = true := by kernel_rfl
theorem fld156_0 : fieldT Tryd.prog 156 0 = some (false, 0, 1) := by kernel_rfl
theorem fld156_1 : fieldT Tryd.prog 156 1 = some (false, 1, 1) := by kernel_rfl
theorem fld156_2 : fieldT Tryd.prog 156 2 = some (false, 2, 1) := by kernel_rfl
theorem fld156_3 : fieldT Tryd.prog 156 3 = some (false, 3, 1) := by kernel_rfl
-- 157: [0]*runtime.PanicNilError
theorem lay157 : layT Tryd.prog 157 = some (true, 0) := by kernel_rfl
theorem zer157 : zeroT Tryd.prog 157 = some [] := by kernel_rfl
theorem eln157 : elemT Tryd.prog 157 = none := by kernel_rfl
theorem arr157 : arrT Tryd.prog 157 = some (0, 1) := by kernel_rfl
theorem pla157 : placesT Tryd.prog 157 = some [] := by kernel_rfl
theorem con157 : concT Tryd.prog 157 = true := by kernel_rfl
-- 158: struct { _ [0]*runtime.PanicNilError }
theorem lay158 : layT Tryd.prog 158 = some (true, 0) := by kernel_rfl
theorem zer158 : zeroT Tryd.prog 158 = some [] := by kernel_rfl
theorem pla158 : placesT Tryd.prog 158 = some [(0, 0)] := by kernel_rfl
theorem con158 : concT Tryd.prog 158 = true := by kernel_rfl
-- 159: runtime.PanicNilError
theorem lay159 : layT Tryd.prog 159 = some (true, 0) := by kernel_rfl
theorem zer159 : zeroT Tryd.prog 159 = some [] := by kernel_rfl
theorem pla159 : placesT Tryd.prog 159 = some [(0, 0)] := by kernel_rfl
theorem con159 : concT Tryd.prog 159 = true := by kernel_rfl
-- 160: func() int
theorem lay160 : layT Tryd.prog 160 = some (false, 1) := by kernel_rfl
theorem zer160 : zeroT Tryd.prog 160 = some [.v (.prim .nilFunc)] := by kernel_rfl
theorem con160 : concT Tryd.prog 160 = true := by kernel_rfl
-- 161: uint32
theorem lay161 : layT Tryd.prog 161 = some (false, 1) := by kernel_rfl
theorem zer161 : zeroT Tryd.prog 161 = some [.v (.prim (.int .u32 (0)))] := by kernel_rfl
theorem zrp161 : zeroP Tryd.prog 161 = some (.int .u32 (0)) := by kernel_rfl
theorem con161 : concT Tryd.prog 161 = true := by kernel_rfl
theorem int161 : intT Tryd.prog 161 = some .u32 := by kernel_rfl
-- 162: abi.TFlag
theorem lay162 : layT Tryd.prog 162 = some (false, 1) := by kernel_rfl
theorem zer162 : zeroT Tryd.prog 162 = some [.v (.prim (.int .u8 (0)))] := by kernel_rfl
theorem zrp162 : zeroP Tryd.prog 162 = some (.int .u8 (0)) := by kernel_rfl
theorem con162 : concT Tryd.prog 162 = true := by kernel_rfl
theorem int162 : intT Tryd.prog 162 = some .u8 := by kernel_rfl
-- 163: abi.Kind
theorem lay163 : layT Tryd.prog 163 = some (false, 1) := by kernel_rfl
theorem zer163 : zeroT Tryd.prog 163 = some [.v (.prim (.int .u8 (0)))] := by kernel_rfl
theorem zrp163 : zeroP Tryd.prog 163 = some (.int .u8 (0)) := by kernel_rfl
theorem con163 : concT Tryd.prog 163 = true := by kernel_rfl
theorem int163 : intT Tryd.prog 163 = some .u8 := by kernel_rfl
-- 164: func(unsafe.Pointer, unsafe.Pointer) bool
theorem lay164 : layT Tryd.prog 164 = some (false, 1) := by kernel_rfl
theorem zer164 : zeroT Tryd.prog 164 = some [.v (.prim .nilFunc)] := by kernel_rfl
theorem con164 : concT Tryd.prog 164 = true := by kernel_rfl
-- 165: *uint8
theorem lay165 : layT Tryd.prog 165 = some (false, 1) := by kernel_rfl
theorem zer165 : zeroT Tryd.prog 165 = some [.v (.prim (.pointer none))] := by kernel_rfl
theorem ptr165 : ptrT Tryd.prog 165 = true := by kernel_rfl
theorem zrp165 : zeroP Tryd.prog 165 = some (.pointer none) := by kernel_rfl
theorem con165 : concT Tryd.prog 165 = true := by kernel_rfl
-- 166: abi.NameOff
theorem lay166 : layT Tryd.prog 166 = some (false, 1) := by kernel_rfl
theorem zer166 : zeroT Tryd.prog 166 = some [.v (.prim (.int .i32 (0)))] := by kernel_rfl
theorem zrp166 : zeroP Tryd.prog 166 = some (.int .i32 (0)) := by kernel_rfl
theorem con166 : concT Tryd.prog 166 = true := by kernel_rfl
theorem int166 : intT Tryd.prog 166 = some .i32 := by kernel_rfl
-- 167: abi.TypeOff
theorem lay167 : layT Tryd.prog 167 = some (false, 1) := by kernel_rfl
theorem zer167 : zeroT Tryd.prog 167 = some [.v (.prim (.int .i32 (0)))] := by kernel_rfl
theorem zrp167 : zeroP Tryd.prog 167 = some (.int .i32 (0)) := by kernel_rfl
theorem con167 : concT Tryd.prog 167 = true := by kernel_rfl
theorem int167 : intT Tryd.prog 167 = some .i32 := by kernel_rfl
-- 168: struct { Size_ uintptr; PtrBytes uintptr; Hash uint32; TFlag abi.TFlag; Align_ uint8; FieldAlign_ uint8; Kind_ abi.Kind; Equal func(unsafe.Pointer, unsafe.Pointer) bool; GCData *uint8; Str abi.NameOff; PtrToThis abi.TypeOff }
theorem lay168 : layT Tryd.prog 168 = some (true, 11) := by kernel_rfl
theorem zer168 : zeroT Tryd.prog 168 = some [.v (.prim (.int .u64 (0))), .v (.prim (.int .u64 (0))), .v (.prim (.int .u32 (0))), .v (.prim (.int .u8 (0))), .v (.prim (.int .u8 (0))), .v (.prim (.int .u8 (0))), .v (.prim (.int .u8 (0))), .v (.prim .nilFunc), .v (.prim (.pointer none)), .v (.prim (.int .i32 (0))), .v (.prim (.int .i32 (0)))] := by kernel_rfl
theorem pla168 : placesT Tryd.prog 168 = some [(0, 1), (1, 1), (2, 1), (3, 1), (4, 1), (5, 1), (6, 1), (7, 1), (8, 1), (9, 1), (10, 1)] := by kernel_rfl
theorem con168 : concT Tryd.prog 168 = true := by kernel_rfl
theorem fld168_0 : fieldT Tryd.prog 168 0 = some (false, 0, 1) := by kernel_rfl
theorem fld168_1 : fieldT Tryd.prog 168 1 = some (false, 1, 1) := by kernel_rfl
theorem fld168_2 : fieldT Tryd.prog 168 2 = some (false, 2, 1) := by kernel_rfl
theorem fld168_3 : fieldT Tryd.prog 168 3 = some (false, 3, 1) := by kernel_rfl
theorem fld168_4 : fieldT Tryd.prog 168 4 = some (false, 4, 1) := by kernel_rfl
theorem fld168_5 : fieldT Tryd.prog 168 5 = some (false, 5, 1) := by kernel_rfl
theorem fld168_6 : fieldT Tryd.prog 168 6 = some (false, 6, 1) := by kernel_rfl
theorem fld168_7 : fieldT Tryd.prog 168 7 = some (false, 7, 1) := by kernel_rfl
theorem fld168_8 : fieldT Tryd.prog 168 8 = some (false, 8, 1) := by kernel_rfl
theorem fld168_9 : fieldT Tryd.prog 168 9 = some (false, 9, 1) := by kernel_rfl
theorem fld168_10 : fieldT Tryd.prog 168 10 = some (false, 10, 1) := by kernel_rfl
-- 169: abi.Type
theorem lay169 : layT Tryd.prog 169 = some (true, 11) := by kernel_rfl
theorem zer169 : zeroT Tryd.prog 169 = some [.v (.prim (.int .u64 (0))), .v (.prim (.int .u64 (0))), .v (.prim (.int .u32 (0))), .v (.prim (.int .u8 (0))), .v (.prim (.int .u8 (0))), .v (.prim (.int .u8 (0))), .v (.prim (.int .u8 (0))), .v (.prim .nilFunc), .v (.prim (.pointer none)), .v (.prim (.int .i32 (0))), .v (.prim (.int .i32 (0)))] := by kernel_rfl
theorem pla169 : placesT Tryd.prog 169 = some [(0, 1), (1, 1), (2, 1), (3, 1), (4, 1), (5, 1), (6, 1), (7, 1), (8, 1), (9, 1), (10, 1)] := by kernel_rfl
theorem con169 : concT Tryd.prog 169 = true := by kernel_rfl
theorem fld169_0 : fieldT Tryd.prog 169 0 = some (false, 0, 1) := by kernel_rfl
theorem fld169_1 : fieldT Tryd.prog 169 1 = some (false, 1, 1) := by kernel_rfl
theorem fld169_2 : fieldT Tryd.prog 169 2 = some (false, 2, 1) := by kernel_rfl
theorem fld169_3 : fieldT Tryd.prog 169 3 = some (false, 3, 1) := by kernel_rfl
theorem fld169_4 : fieldT Tryd.prog 169 4 = some (false, 4, 1) := by kernel_rfl
theorem fld169_5 : fieldT Tryd.prog 169 5 = some (false, 5, 1) := by kernel_rfl
theorem fld169_6 : fieldT Tryd.prog 169 6 = some (false, 6, 1) := by kernel_rfl
theorem fld169_7 : fieldT Tryd.prog 169 7 = some (false, 7, 1) := by kernel_rfl
theorem fld169_8 : fieldT Tryd.prog 169 8 = some (false, 8, 1) := by kernel_rfl
theorem fld169_9 : fieldT Tryd.prog 169 9 = some (false, 9, 1) := by kernel_rfl
theorem fld169_10 : fieldT Tryd.prog 169 10 = some (false, 10, 1) := by kernel_rfl
-- 170: func(api.Formula) api.Errno
theorem lay170 : layT Tryd.prog 170 = some (false, 1) := by kernel_rfl
theorem zer170 : zeroT Tryd.prog 170 = some [.v (.prim .nilFunc)] := by kernel_rfl
theorem con170 : concT Tryd.prog 170 = true := by kernel_rfl
-- 171: unsafe.Pointer
theorem lay171 : layT Tryd.prog 171 = some (false, 1) := by kernel_rfl
theorem zer171 : zeroT Tryd.prog 171 = some [.v (.prim (.pointer none))] := by kernel_rfl
theorem zrp171 : zeroP Tryd.prog 171 = some (.pointer none) := by kernel_rfl
theorem con171 : concT Tryd.prog 171 = true := by kernel_rfl
-- 172: []api.Formula
theorem lay172 : layT Tryd.prog 172 = some (false, 1) := by kernel_rfl
theorem zer172 : zeroT Tryd.prog 172 = some [.own 0 []] := by kernel_rfl
theorem ele172 : elemT Tryd.prog 172 = some 5 := by kernel_rfl
theorem elz172 : elemZ Tryd.prog 172 = some (5, 88) := by kernel_rfl
theorem con172 : concT Tryd.prog 172 = true := by kernel_rfl
-- 173: struct { Kind int; Type api.Type; Terms []api.Term; Args []api.Formula }
theorem lay173 : layT Tryd.prog 173 = some (true, 5) := by kernel_rfl
theorem zer173 : zeroT Tryd.prog 173 = some [.v (.prim (.int .i64 (0))), .v (.prim (.int .i64 (0))), .own 0 [], .own 0 [], .own 0 []] := by kernel_rfl
theorem pla173 : placesT Tryd.prog 173 = some [(0, 1), (1, 2), (3, 1), (4, 1)] := by kernel_rfl
theorem con173 : concT Tryd.prog 173 = true := by kernel_rfl
theorem fld173_0 : fieldT Tryd.prog 173 0 = some (false, 0, 1) := by kernel_rfl
theorem fld173_1 : fieldT Tryd.prog 173 1 = some (true, 1, 2) := by kernel_rfl
theorem fld173_2 : fieldT Tryd.prog 173 2 = some (false, 3, 1) := by kernel_rfl
theorem fld173_3 : fieldT Tryd.prog 173 3 = some (false, 4, 1) := by kernel_rfl
-- 174: api.Formula
theorem lay174 : layT Tryd.prog 174 = some (true, 5) := by kernel_rfl
theorem zer174 : zeroT Tryd.prog 174 = some [.v (.prim (.int .i64 (0))), .v (.prim (.int .i64 (0))), .own 0 [], .own 0 [], .own 0 []] := by kernel_rfl
theorem pla174 : placesT Tryd.prog 174 = some [(0, 1), (1, 2), (3, 1), (4, 1)] := by kernel_rfl
theorem con174 : concT Tryd.prog 174 = true := by kernel_rfl
theorem fld174_0 : fieldT Tryd.prog 174 0 = some (false, 0, 1) := by kernel_rfl
theorem fld174_1 : fieldT Tryd.prog 174 1 = some (true, 1, 2) := by kernel_rfl
theorem fld174_2 : fieldT Tryd.prog 174 2 = some (false, 3, 1) := by kernel_rfl
theorem fld174_3 : fieldT Tryd.prog 174 3 = some (false, 4, 1) := by kernel_rfl

attribute [go_sem] lay0 con0 lay1 zer1 con1 lay2 zer2 zrp2 con2 int2 lay3 zer3 zrp3 con3 int3 lay4 zer4 boo4 con4 lay5 zer5 zrp5 con5 int5 lay6 zer6 zrp6 con6 int6 lay7 zer7 pla7 con7 fld7_0 fld7_1 fld7_2 fld7_3 lay8 zer8 pla8 con8 fld8_0 fld8_1 fld8_2 fld8_3 lay9 zer9 con9 lay10 zer10 con10 lay11 zer11 con11 lay12 zer12 zrp12 con12 int12 lay13 zer13 pla13 con13 fld13_0 fld13_1 lay14 zer14 pla14 con14 fld14_0 fld14_1 lay15 zer15 ptr15 zrp15 con15 lay16 zer16 ptr16 zrp16 con16 lay17 zer17 ptr17 zrp17 con17 lay18 zer18 pla18 con18 fld18_0 lay19 zer19 pla19 con19 fld19_0 lay20 zer20 lay21 zer21 zrp21 con21 int21 lay22 zer22 ele22 elz22 con22 lay23 zer23 con23 lay24 zer24 con24 lay25 zer25 ptr25 zrp25 con25 lay26 zer26 con26 lay27 zer27 ele27 elz27 con27 lay28 zer28 pla28 con28 fld28_0 fld28_1 lay29 zer29 pla29 con29 fld29_0 fld29_1 lay30 zer30 con30 lay31 zer31 ele31 elz31 con31 lay32 zer32 pla32 con32 fld32_0 fld32_1 fld32_2 fld32_3 lay33 zer33 pla33 con33 fld33_0 fld33_1 fld33_2 fld33_3 lay34 zer34 con34 lay35 zer35 con35 lay36 zer36 ele36 elz36 con36 lay37 zer37 pla37 con37 fld37_0 fld37_1 fld37_2 fld37_3 lay38 zer38 pla38 con38 fld38_0 fld38_1 fld38_2 fld38_3 lay39 zer39 con39 lay40 zer40 zrp40 con40 int40 lay41 con41 lay42 zer42 con42 lay43 con43 lay44 zer44 con44 lay45 zer45 con45 lay46 zer46 con46 lay47 zer47 con47 lay48 zer48 zrp48 con48 int48 lay49 zer49 con49 lay50 zer50 con50 lay51 zer51 pla51 con51 fld51_0 fld51_1 lay52 zer52 ele52 elz52 con52 lay53 zer53 con53 lay54 zer54 pla54 con54 fld54_0 fld54_1 lay55 zer55 pla55 con55 fld55_0 fld55_1 lay56 zer56 con56 lay57 zer57 con57 lay58 zer58 con58 lay59 zer59 con59 lay60 zer60 con60 lay61 zer61 con61 lay62 zer62 con62 lay63 zer63 con63 lay64 zer64 con64 lay65 zer65 con65 lay66 zer66 con66 lay67 zer67 con67 lay68 zer68 con68 lay69 con69 lay70 zer70 con70 lay71 zer71 ele71 elz71 con71 lay72 zer72 con72 lay73 zer73 lay74 zer74 con74 lay75 con75 lay76 zer76 con76 lay77 zer77 ptr77 zrp77 con77 lay78 zer78 pla78 con78 fld78_0 fld78_1 lay79 zer79 pla79 con79 fld79_0 fld79_1 lay80 con80 lay81 zer81 con81 lay82 zer82 con82 lay83 zer83 con83 lay84 zer84 con84 lay85 zer85 con85 lay86 zer86 con86 lay87 zer87 con87 lay88 zer88 con88 lay89 zer89 con89 lay90 zer90 con90 lay91 zer91 con91 lay92 zer92 pla92 con92 fld92_0 fld92_1 lay93 zer93 pla93 con93 fld93_0 fld93_1 lay94 con94 lay95 zer95 ele95 elz95 con95 lay96 zer96 ele96 elz96 con96 lay97 zer97 con97 lay98 zer98 con98 lay99 zer99 con99 lay100 zer100 ptr100 zrp100 con100 lay101 zer101 con101 lay102 zer102 con102 lay103 zer103 con103 lay104 zer104 pla104 con104 fld104_0 fld104_1 lay105 zer105 pla105 con105 fld105_0 fld105_1 lay106 zer106 ptr106 zrp106 con106 lay107 zer107 pla107 con107 fld107_0 fld107_1 lay108 zer108 pla108 con108 fld108_0 fld108_1 lay109 zer109 pla109 con109 lay110 zer110 pla110 con110 lay111 zer111 con111 lay112 zer112 con112 lay113 zer113 con113 lay114 zer114 con114 lay115 zer115 ptr115 zrp115 con115 lay116 zer116 con116 lay117 zer117 ptr117 zrp117 con117 lay118 zer118 pla118 con118 fld118_0 fld118_1 lay119 zer119 pla119 con119 fld119_0 fld119_1 lay120 zer120 eln120 arr120 pla120 con120 lay121 con121 lay122 zer122 con122 lay123 zer123 con123 lay124 zer124 pla124 con124 fld124_0 fld124_1 lay125 zer125 pla125 con125 fld125_0 fld125_1 lay126 con126 lay127 zer127 con127 lay128 zer128 con128 lay129 zer129 con129 lay130 zer130 eln130 arr130 pla130 con130 lay131 zer131 con131 lay132 con132 lay133 zer133 con133 lay134 zer134 con134 lay135 zer135 con135 lay136 zer136 con136 lay137 zer137 ele137 elz137 con137 lay138 zer138 con138 lay139 zer139 con139 lay140 zer140 con140 lay141 zer141 con141 lay142 zer142 con142 lay143 zer143 con143 lay144 zer144 con144 lay145 zer145 con145 lay146 zer146 con146 lay147 zer147 con147 lay148 zer148 con148 lay149 zer149 con149 lay150 zer150 con150 lay151 zer151 con151 lay152 zer152 con152 lay153 zer153 eln153 arr153 pla153 con153 lay154 zer154 con154 lay155 zer155 pla155 con155 fld155_0 fld155_1 fld155_2 fld155_3 lay156 zer156 pla156 con156 fld156_0 fld156_1 fld156_2 fld156_3 lay157 zer157 eln157 arr157 pla157 con157 lay158 zer158 pla158 con158 lay159 zer159 pla159 con159 lay160 zer160 con160 lay161 zer161 zrp161 con161 int161 lay162 zer162 zrp162 con162 int162 lay163 zer163 zrp163 con163 int163 lay164 zer164 con164 lay165 zer165 ptr165 zrp165 con165 lay166 zer166 zrp166 con166 int166 lay167 zer167 zrp167 con167 int167 lay168 zer168 pla168 con168 fld168_0 fld168_1 fld168_2 fld168_3 fld168_4 fld168_5 fld168_6 fld168_7 fld168_8 fld168_9 fld168_10 lay169 zer169 pla169 con169 fld169_0 fld169_1 fld169_2 fld169_3 fld169_4 fld169_5 fld169_6 fld169_7 fld169_8 fld169_9 fld169_10 lay170 zer170 con170 lay171 zer171 zrp171 con171 lay172 zer172 ele172 elz172 con172 lay173 zer173 pla173 con173 fld173_0 fld173_1 fld173_2 fld173_3 lay174 zer174 pla174 con174 fld174_0 fld174_1 fld174_2 fld174_3
end Go.Proofs.YtgfjcbofbbcnmaaDoor.Lift

namespace Go.Proofs.YtgfjcbofbbcnmaaDoor.Lift
set_option linter.unusedSimpArgs false
set_option linter.unusedVariables false
set_option linter.unnecessarySimpa false
open Go
variable {gl : Globs}

theorem ref01_copy_ok (t : Ty) : Con1 Tryd.prog gl 36 [t.dv] [] t.dv [] := by
  induction t using Ty.ind with
  | h t ih =>
  refine t_in Tryd.func36 ?_
  intro X hP hgl hf hfn hn hR hids hfit
  have htf : t.fit := (Ty.dv_fit t).1 (hfit _ (by simp))
  have hlen : t.args.length ≤ 2147483648 := ((Ty.fit_eq t).1 htf).2.1
  refine t_rg0 ?_
  refine t_rg0 ?_
  refine t_rg0 ?_
  refine t_a ?_
  refine W_sub [(1003, 0)] ?_ ?_ ?_ (W_list t.args (fun done rest => [(.slot 2, .one (.loc 2 0)), (.loc 2, .row [.v (dint 0), .own 0 []]), (.slot 1, .one (.loc 1 0)), (.loc 1, .row [.v (dint t.kind), .v (.sl (t.args.map Ty.cells))]),
      (.slot 3, .one (.own 1003 (done.map Ty.cells))), (.tok 1003, .tk 2 done.length), (.slot 7, .one (.v (.sl (t.args.map Ty.cells)))), (.slot 8, .one (.v (dint t.args.length))), (.slot 9, .one (.v (dint done.length)))]) ?_ ?_)
  · simp [go_sem]
  · simp [go_sem]
  · simp [go_sem]
  · intro done x rest hL hg hnext
    have hlt : done.length < t.args.length := by rw [hL]; simp
    refine t_rg0 ?_
    refine t_yes ?_
    refine t_rg @hg ?_
    refine t_a ?_
    first | refine W_reg [] fun K hK => ?_ | refine W_regd (by rw [hP]; exact mixed) [] fun K hK => ?_
    refine t_s0 ?_
    refine t_c trivial (ih x (List.mem_of_getElem? hg)) ?_
    refine t_e ?_
    clear hK K
    refine t_rg0 ?_
    refine t_b ?_
    refine t_sub [(1003, 17)] trivial hnext
  · refine t_rg0 ?_
    refine t_no ?_
    refine t_rg0 ?_
    refine t_r ?_
    simp [go_sem, hP, hgl, hn] <;> (try omega)

theorem ref01_same_ok (a b : Ty) : Con1 Tryd.prog gl 34 [a.dv, b.dv] [] (dbool (a.same b)) [] := by
  induction a using Ty.ind generalizing b with
  | h a ih =>
  refine t_in Tryd.func34 ?_
  intro X hP hgl hf hfn hn hR hids hfit
  have hfa : a.fit := (Ty.dv_fit a).1 (hfit _ (by simp))
  have hfb : b.fit := (Ty.dv_fit b).1 (hfit _ (by simp))
  have hla : a.args.length ≤ 2147483648 := ((Ty.fit_eq a).1 hfa).2.1
  have hlb : b.args.length ≤ 2147483648 := ((Ty.fit_eq b).1 hfb).2.1
  refine t_rg0 ?_
  by_cases hk : a.kind = b.kind
  · refine t_rg @hk ?_
    by_cases hl : a.args.length = b.args.length
    · refine t_a ?_
      refine W_cond rfl ?_ ?_
      · intro h; simp [hl] at h
      intro _
      refine t_rg0 ?_
      refine t_a ?_
      refine W_sub [] ?_ ?_ ?_ (W_upto a.args.length (fun i => ∀ (j : Nat) (x y : Ty), j < i → a.args[j]? = some x → b.args[j]? = some y → x.same y = true)
        (fun i => [(.slot 2, .one (.loc 2 0)), (.loc 2, .row [.v (dint a.kind), .v (.sl (a.args.map Ty.cells))]), (.slot 3, .one (.loc 3 0)), (.loc 3, .row [.v (dint b.kind), .v (.sl (b.args.map Ty.cells))]), (.slot 22, .one (.v (dint a.args.length))), (.slot 23, .one (.v (dint i)))]) (by intro j x y h; omega) ?_ ?_)
      · simp [go_sem]
      · simp [go_sem, hk, hl]
      · simp [go_sem]
      · intro i hi hI hnext
        obtain ⟨x, hx⟩ : ∃ x, a.args[i]? = some x := ⟨_, List.getElem?_eq_getElem hi⟩
        obtain ⟨y, hy⟩ : ∃ y, b.args[i]? = some y := ⟨_, List.getElem?_eq_getElem (by omega)⟩
        refine t_rg0 ?_
        refine t_yes ?_
        refine t_rg0 ?_
        refine t_a ?_
        first | refine W_reg [] fun K hK => ?_ | refine W_regd (by rw [hP]; exact mixed) [] fun K hK => ?_
        refine t_s (j2 @hx @hy) ?_
        refine t_c trivial (ih x (List.mem_of_getElem? hx) y) ?_
        refine t_e ?_
        clear hK K
        by_cases hs : x.same y = true
        · refine t_a ?_
          refine W_cond rfl ?_ ?_
          · intro h; simp [hs] at h
          intro _
          refine t_rg0 ?_
          refine t_b ?_
          refine t_sub [] trivial (hnext ?_)
          intro j x' y' hj hx' hy'
          by_cases hji : j = i
          · subst hji; rw [hx] at hx'; rw [hy] at hy'; cases hx'; cases hy'; exact hs
          · exact hI j x' y' (by omega) hx' hy'
        · refine t_a ?_
          refine W_cond rfl ?_ ?_
          rotate_left
          · intro h; simp [hs] at h
          intro _
          refine t_rg0 ?_
          refine t_r ?_
          simp [go_sem, hP, hgl, hn] <;> (try omega)
          refine Bool.eq_false_iff.2 ?_
          intro h
          rw [Ty.same_eq, Bool.and_eq_true, Ty.sames_iff] at h
          exact hs (h.2.2 i x y hx hy)
      · intro hI
        refine t_rg0 ?_
        refine t_no ?_
        refine t_rg0 ?_
        refine t_r ?_
        simp [go_sem, hP, hgl, hn] <;> (try omega)
        rw [Ty.same_eq, Bool.and_eq_true, Ty.sames_iff]
        exact ⟨by simp [hk], hl, fun i x y hx hy => hI i x y (List.getElem?_eq_some_iff.1 hx).1 hx hy⟩
    · refine t_a ?_
      refine W_cond rfl ?_ ?_
      rotate_left
      · intro h; simp at h; omega
      intro _
      refine t_rg0 ?_
      refine t_r ?_
      simp [go_sem, hP, hgl, hn] <;> (try omega)
      refine Bool.eq_false_iff.2 ?_
      intro h
      rw [Ty.same_eq, Bool.and_eq_true, Ty.sames_iff] at h
      exact hl h.2.1
  · refine t_rg @hk ?_
    refine t_a ?_
    refine W_cond rfl ?_ ?_
    rotate_left
    · intro h; simp at h
    intro _
    refine t_rg0 ?_
    refine t_r ?_
    simp [go_sem, hP, hgl, hn] <;> (try omega)
    simp [Ty.same_eq, hk]

theorem ref01_nat_ok : Con1 Tryd.prog gl 24 [] [] (Ty.mk 1 []).dv [] := by
  refine t_in Tryd.func24 ?_
  intro X hP hgl hf hfn hn hR hids hfit
  refine t_rg0 ?_
  refine t_rg0 ?_
  refine t_r ?_
  simp [go_sem, hP, hgl, hn] <;> (try omega)
  all_goals exact t_f

theorem ref01_list_ok : Con1 Tryd.prog gl 25 [] [] (Ty.mk 2 []).dv [] := by
  refine t_in Tryd.func25 ?_
  intro X hP hgl hf hfn hn hR hids hfit
  refine t_rg0 ?_
  refine t_rg0 ?_
  refine t_r ?_
  simp [go_sem, hP, hgl, hn] <;> (try omega)
  all_goals exact t_f

theorem ref01_unit_ok : Con1 Tryd.prog gl 26 [] [] (Ty.mk 5 []).dv [] := by
  refine t_in Tryd.func26 ?_
  intro X hP hgl hf hfn hn hR hids hfit
  refine t_rg0 ?_
  refine t_rg0 ?_
  refine t_r ?_
  simp [go_sem, hP, hgl, hn] <;> (try omega)
  all_goals exact t_f

theorem ref01_two_ok (a b : Ty) : Con1 Tryd.prog gl 27 [a.dv, b.dv] [] (Ty.mk 3 [a, b]).dv [] := by
  refine t_in Tryd.func27 ?_
  intro X hP hgl hf hfn hn hR hids hfit
  refine t_rg0 ?_
  refine t_a ?_
  first | refine W_reg [] fun K hK => ?_ | refine W_regd (by rw [hP]; exact mixed) [] fun K hK => ?_
  refine t_s0 ?_
  refine t_c trivial (ref01_copy_ok a) ?_
  refine t_c trivial (ref01_copy_ok b) ?_
  refine t_e ?_
  clear hK K
  refine t_r ?_
  simp [go_sem, hP, hgl, hn] <;> (try omega)
  all_goals exact t_f
end Go.Proofs.YtgfjcbofbbcnmaaDoor.Lift

namespace Go.Proofs.YtgfjcbofbbcnmaaDoor.Lift
set_option linter.unusedSimpArgs false
set_option linter.unusedVariables false
set_option linter.unnecessarySimpa false
open Go
variable {gl : Globs}

theorem Tm.fit_len {t : Tm} (h : t.dv.fit) : t.args.length ≤ 2147483648 := ((Tm.fit_eq t).1 ((Tm.dv_fit t).1 h)).2.2.2.1
theorem sl_len {l : List (List DV)} (h : DV.fit (.sl l)) : l.length ≤ 2147483648 := by simp [DV.fit, BIG] at h; exact h.1

theorem ref02_copy_ok (t : Tm) : Con1 Tryd.prog gl 48 [t.dv] [] t.dv [] := by
  induction t using Tm.ind with
  | h t ih =>
  refine t_in Tryd.func48 ?_
  intro X hP hgl hf hfn hn hR hids hfit
  have hlen := Tm.fit_len (hfit t.dv (by simp))
  refine t_rg0 ?_
  refine t_rg0 ?_
  refine t_rg0 ?_
  refine t_a ?_
  refine t_sub [(1003, 0)] trivial (W_list (t.args) (fun done rest => [(.slot 9, .one (.v (dint done.length))), (.slot 8, .one (.v (dint t.args.length))), (.slot 7, .one (.v (.sl (t.args.map Tm.cells)))), (.slot 3, .one (.own 1003 (done.map Tm.cells))), (.tok 1003, .tk 5 done.length), (.loc 2, .row ([.v (dint 0), .v (dint 0), .v (dint 0), .own 0 [], .own 0 []])), (.slot 2, .one (.loc 2 0)), (.loc 1, .row ([.v (dint t.kind), .v (dint t.index), .v (dint t.type.kind), .v (.sl (t.type.args.map Ty.cells)), .v (.sl (t.args.map Tm.cells))])), (.slot 1, .one (.loc 1 0))]) ?_ ?_)
  · intro done x rest hL hg hnext
    have hlt : done.length < t.args.length := by rw [hL]; simp
    refine t_rg0 ?_
    refine t_yes ?_
    refine t_rg @hg ?_
    refine t_a ?_
    first | refine W_reg [] fun K hK => ?_ | refine W_regd (by rw [hP]; exact mixed) [] fun K hK => ?_
    refine t_s0 ?_
    refine t_c trivial (ih x (List.mem_of_getElem? hg)) ?_
    refine t_e ?_
    clear hK K
    refine t_rg0 ?_
    refine t_b ?_
    refine t_sub [(1003, 17)] trivial hnext
  · refine t_rg0 ?_
    refine t_no ?_
    refine t_a ?_
    first | refine W_reg [] fun K hK => ?_ | refine W_regd (by rw [hP]; exact mixed) [] fun K hK => ?_
    refine t_s0 ?_
    refine t_c trivial (ref01_copy_ok t.type) ?_
    refine t_e ?_
    clear hK K
    refine t_r ?_
    simp [go_sem, hP, hgl, hn] <;> (try omega)

/-- the number of nodes -/
def Tm.count : Tm → Nat
  | .mk _ _ _ l => 1 + counts l
where
  counts : List Tm → Nat
    | [] => 0
    | a :: r => a.count + counts r
theorem Tm.count_eq (t : Tm) : t.count = 1 + Tm.count.counts t.args := by cases t; rfl
theorem Tm.counts_append (l m : List Tm) : Tm.count.counts (l ++ m) = Tm.count.counts l + Tm.count.counts m := by
  induction l with
  | nil => simp [Tm.count.counts]
  | cons a r ih => simp [Tm.count.counts, ih]; omega

theorem ref02_n_ok (k : Int) (l : List Tm) : Con1 Tryd.prog gl 17 [dint k, .sl (l.map Tm.cells)] [] (Tm.mk k 0 (Ty.mk 0 []) l).dv [] := by
  refine t_in Tryd.func17 ?_
  intro X hP hgl hf hfn hn hR hids hfit
  have hlen : l.length ≤ 2147483648 := by simpa using sl_len (hfit (.sl (l.map Tm.cells)) (by simp))
  refine t_rg0 ?_
  refine t_rg0 ?_
  refine t_rg0 ?_
  refine t_a ?_
  refine t_sub [(1005, 0)] trivial (W_list (l) (fun done rest => [(.slot 10, .one (.v (dint done.length))), (.slot 9, .one (.v (dint l.length))), (.slot 8, .one (.v (.sl (l.map Tm.cells)))), (.slot 5, .one (.own 1005 (done.map Tm.cells))), (.tok 1005, .tk 5 done.length), (.loc 4, .row ([.v (dint 0), .v (dint 0), .v (dint 0), .own 0 [], .own 0 []])), (.slot 4, .one (.loc 4 0)), (.slot 0, .one (.v (dint k)))]) ?_ ?_)
  · intro done x rest hL hg hnext
    have hlt : done.length < l.length := by rw [hL]; simp
    refine t_rg0 ?_
    refine t_yes ?_
    refine t_rg @hg ?_
    refine t_a ?_
    first | refine W_reg [] fun K hK => ?_ | refine W_regd (by rw [hP]; exact mixed) [] fun K hK => ?_
    refine t_s0 ?_
    refine t_c trivial (ref02_copy_ok x) ?_
    refine t_e ?_
    clear hK K
    refine t_rg0 ?_
    refine t_b ?_
    refine t_sub [(1005, 18)] trivial hnext
  · refine t_rg0 ?_
    refine t_no ?_
    refine t_rg0 ?_
    refine t_r ?_
    simp [go_sem, hP, hgl, hn] <;> (try omega)
    all_goals exact t_f

end Go.Proofs.YtgfjcbofbbcnmaaDoor.Lift

/-
  Plain facts: forms and sizes of types and terms.
-/
namespace Go.Proofs.YtgfjcbofbbcnmaaDoor.Lift
set_option linter.unusedSimpArgs false
set_option linter.unusedVariables false
set_option linter.unnecessarySimpa false
open Go

def tyKind (k : Int) (n : Nat) : Bool := (decide (k = 1 ∨ k = 2 ∨ k = 5) && n == 0) || (decide (k = 3 ∨ k = 4) && n == 2)

namespace Ty
set_option linter.unusedSimpArgs false
set_option linter.unusedVariables false
set_option linter.unnecessarySimpa false
def shape : Ty → Bool
  | .mk k a => tyKind k a.length && shapes a
where
  shapes : List Ty → Bool
    | [] => true
    | a :: r => a.shape && shapes r
theorem shape_eq (t : Ty) : t.shape = (tyKind t.kind t.args.length && shape.shapes t.args) := by cases t; rfl
theorem shapes_append (l m : List Ty) : shape.shapes (l ++ m) = (shape.shapes l && shape.shapes m) := by
  induction l with
  | nil => simp [shape.shapes]
  | cons a r ih => simp [shape.shapes, ih, Bool.and_assoc]
theorem shapes_iff (l : List Ty) : shape.shapes l = true ↔ ∀ a ∈ l, a.shape = true := by
  induction l with
  | nil => simp [shape.shapes]
  | cons a r ih => simp [shape.shapes, ih]
def count : Ty → Nat
  | .mk _ a => 1 + counts a
where
  counts : List Ty → Nat
    | [] => 0
    | a :: r => a.count + counts r
theorem count_eq (t : Ty) : t.count = 1 + count.counts t.args := by cases t; rfl
theorem counts_append (l m : List Ty) : count.counts (l ++ m) = count.counts l + count.counts m := by
  induction l with
  | nil => simp [count.counts]
  | cons a r ih => simp [count.counts, ih]; omega
theorem count_mem {l : List Ty} {a : Ty} (h : a ∈ l) : a.count ≤ count.counts l := by
  induction l with
  | nil => cases h
  | cons b r ih =>
    simp only [count.counts]
    rcases List.mem_cons.1 h with rfl | h
    · omega
    · have := ih h; omega
/-- the first error of a type -/
def checkN (t : Ty) : Int := if t.shape = true then if 64 < t.count then 4 else 0 else 2
def zero (t : Ty) : Bool := decide (t.kind = 0) && decide (t.args.length = 0)
end Ty

/-- how many parts a kind of terms has -/
def arityI (k : Int) : Int :=
  if k = 1 ∨ k = 4 ∨ k = 7 ∨ k = 13 then 0 else if k = 2 ∨ k = 5 ∨ k = 11 ∨ k = 12 then 1 else if k = 3 ∨ k = 8 ∨ k = 10 then 2 else if k = 6 ∨ k = 9 then 3 else -1

def tyOfKind (k : Int) (t : Ty) : Bool := if k = 2 ∨ k = 6 ∨ k = 9 then decide (t.checkN = 0) else t.zero

def tmKind (k i : Int) (t : Ty) (n : Nat) : Bool := decide ((n : Int) = arityI k) && decide (0 ≤ i) && (decide (k = 1) || decide (i = 0)) && tyOfKind k t

namespace Tm
set_option linter.unusedSimpArgs false
set_option linter.unusedVariables false
set_option linter.unnecessarySimpa false
def shape : Tm → Bool
  | .mk k i t a => tmKind k i t a.length && shapes a
where
  shapes : List Tm → Bool
    | [] => true
    | a :: r => a.shape && shapes r
theorem shape_eq (t : Tm) : t.shape = (tmKind t.kind t.index t.type t.args.length && shape.shapes t.args) := by cases t; rfl
theorem shapes_append (l m : List Tm) : shape.shapes (l ++ m) = (shape.shapes l && shape.shapes m) := by
  induction l with
  | nil => simp [shape.shapes]
  | cons a r ih => simp [shape.shapes, ih, Bool.and_assoc]
theorem shapes_iff (l : List Tm) : shape.shapes l = true ↔ ∀ a ∈ l, a.shape = true := by
  induction l with
  | nil => simp [shape.shapes]
  | cons a r ih => simp [shape.shapes, ih]
theorem count_mem {l : List Tm} {a : Tm} (h : a ∈ l) : a.count ≤ count.counts l := by
  induction l with
  | nil => cases h
  | cons b r ih =>
    simp only [count.counts]
    rcases List.mem_cons.1 h with rfl | h
    · omega
    · have := ih h; omega
theorem count_pos (t : Tm) : 1 ≤ t.count := by rw [count_eq]; omega
/-- all types of a term are small enough to be counted -/
def tys : Tm → Prop
  | .mk _ _ t a => t.count ≤ 1073741824 ∧ tyss a
where
  tyss : List Tm → Prop
    | [] => True
    | a :: r => a.tys ∧ tyss r
theorem tyss_iff (l : List Tm) : tys.tyss l ↔ ∀ a ∈ l, a.tys := by
  induction l with
  | nil => simp [tys.tyss]
  | cons a r ih => simp [tys.tyss, ih]
theorem tys_eq (t : Tm) : t.tys ↔ t.type.count ≤ 1073741824 ∧ ∀ a ∈ t.args, a.tys := by cases t; simp only [tys, tyss_iff, type, args]
/-- the first error of a term -/
def checkN (t : Tm) : Int := if t.shape = true then if 4096 < t.count then 4 else 0 else 2
end Tm
theorem Ty.fit_len {t : Ty} (h : t.dv.fit) : t.args.length ≤ 2147483648 := ((Ty.fit_eq t).1 ((Ty.dv_fit t).1 h)).2.1
end Go.Proofs.YtgfjcbofbbcnmaaDoor.Lift

namespace Go.Proofs.YtgfjcbofbbcnmaaDoor.Lift
set_option linter.unusedSimpArgs false
set_option linter.unusedVariables false
set_option linter.unnecessarySimpa false
open Go
variable {gl : Globs}

abbrev ptr (b : Nat) : DV := .prim (.pointer (some ⟨b, 0, none⟩))
/-- a deck of numbers, as an object's cells -/
abbrev deck (l : List Int) (p : Nat) : List DV := [.sl (ints l), dint p]

def modz (n k : Int) : Int := (n.tmod k + k).tmod k
theorem modz_bd (n k : Int) (h : 1 ≤ k) : 0 ≤ modz n k ∧ modz n k < k ∧ -k < n.tmod k ∧ n.tmod k < k := by
  have h1 : -k < n.tmod k := by
    have := Int.lt_tmod_of_pos n (show 0 < k by omega); omega
  have h2 : n.tmod k < k := Int.tmod_lt_of_pos n (by omega)
  refine ⟨?_, Int.tmod_lt_of_pos _ (by omega), h1, h2⟩
  exact Int.tmod_nonneg _ (by omega)

theorem mod_ok (n k : Int) (h1 : 1 ≤ k) (h2 : k ≤ 2147483648) : Con1 Tryd.prog gl 54 [dint n, dint k] [] (dint (modz n k)) [] := by
  refine t_in Tryd.func54 ?_
  intro X hP hgl hf hfn hn hR hids hfit
  have hb := modz_bd n k h1
  unfold modz at hb
  refine t_rg0 ?_
  refine t_a ?_
  first | refine W_reg [] fun K hK => ?_ | refine W_regd (by rw [hP]; exact mixed) [] fun K hK => ?_
  refine t_s0 ?_
  have hk0 : ¬ k = 0 := by omega
  refine ⟨⟨hk0, by omega⟩, ?_⟩
  refine ⟨by omega, ⟨hk0, by omega⟩, ?_⟩
  refine t_e ?_
  clear hK K
  refine t_r ?_
  simp [go_sem, hP, hgl, hn, modz] <;> (try omega)

theorem few_ok (l : List Int) : Con1 Tryd.prog gl 8 [.sl (ints l)] [] (dbool (decide (l.length ≤ 500))) [] := by
  refine t_in Tryd.func8 ?_
  intro X hP hgl hf hfn hn hR hids hfit
  refine t_rg0 ?_
  refine t_rg0 ?_
  refine t_r ?_
  simp [go_sem, hP, hgl, hn] <;> (try omega)

theorem new_ok (l : List Int) : Con Tryd.prog gl 9 [.sl (ints l)] [] fun r φ => ∃ b, r = ptr b ∧ φ = [(b, deck l 0)] := by
  refine t_in Tryd.func9 ?_
  intro X hP hgl hf hfn hn hR hids hfit
  refine t_rg0 ?_
  refine t_rg0 ?_
  refine W_expose 5 (by simp [go_sem]; rfl) ?_
  intro b hb
  simp [go_sem]
  refine W_retR hP hf hfn (ptr b) [(b, deck l 0)] (by simp [go_sem, hP, hgl, hn]) (by simp [go_sem]) (by simp) (by rw [hR.1]; exact ⟨b, rfl, rfl⟩) hR.2

/-- the next number below n -/
def nextD (l : List Int) (p : Nat) (n : Int) : Int × Nat :=
  if n < 1 then (0, p) else match l[p]? with
    | some x => (modz x n, p + 1)
    | none => (0, p)

theorem next_ok (b : Nat) (l : List Int) (p : Nat) (n : Int) (hn2 : n ≤ 2147483648) (hp : p ≤ 2147483648) :
    Con1 Tryd.prog gl 23 [ptr b, dint n] [(b, deck l p)] (dint (nextD l p n).1) [(b, deck l (nextD l p n).2)] := by
  refine t_in Tryd.func23 ?_
  intro X hP hgl hf hfn hn hR hids hfit
  refine t_rg0 ?_
  by_cases hlt : n < 1
  · refine t_rg @hlt ?_
    refine t_a ?_
    refine W_cond rfl ?_ ?_
    rotate_left
    · intro h; simp at h
    intro _
    refine t_rg0 ?_
    repeat (first | refine W_seq ?_ | refine W_skip ?_ | refine W_block ?_ | refine W_inBlock ?_ | refine W_label ?_ | refine W_exit rfl ?_)
    first | refine W_retR hP hf hfn _ ([(b, deck l p)]) (by first | (simp [go_sem, hP, hgl, hn, nextD, hlt]; done) | (simp [go_sem, hP, hgl, hn, nextD, hlt]; rfl)) (by simp [go_sem, hP, hgl, hn, nextD, hlt]) (by simp) ?_ hR.2 | refine W_endR hP hf hfn _ ([(b, deck l p)]) (by first | (simp [go_sem, hP, hgl, hn, nextD, hlt]; done) | (simp [go_sem, hP, hgl, hn, nextD, hlt]; rfl)) (by simp [go_sem, hP, hgl, hn, nextD, hlt]) (by simp) ?_ hR.2
    rw [hR.1]
    refine ⟨?_, by simp [nextD, hlt]⟩
    try simp [nextD, hlt]
    try all_goals (simp [Ty.dv, Ty.cells_eq, Ty.kind_mk, Ty.args_mk, Tm.dv, Tm.cells_eq, Tm.kind_mk, Tm.index_mk, Tm.type_mk, Tm.args_mk, Val.dv, Val.cells_eq, Val.kind_mk, Val.num_mk, Val.list_mk, Val.args_mk, ints])
  · by_cases hle : l.length ≤ p
    · refine t_rg (j2 @hlt @hle) ?_
      refine t_a ?_
      refine W_cond rfl ?_ ?_
      rotate_left
      · intro h; simp [hle] at h
      intro _
      refine t_rg0 ?_
      have hg : l[p]? = none := List.getElem?_eq_none hle
      repeat (first | refine W_seq ?_ | refine W_skip ?_ | refine W_block ?_ | refine W_inBlock ?_ | refine W_label ?_ | refine W_exit rfl ?_)
      first | refine W_retR hP hf hfn _ ([(b, deck l p)]) (by first | (simp [go_sem, hP, hgl, hn, nextD, hlt, hg]; done) | (simp [go_sem, hP, hgl, hn, nextD, hlt, hg]; rfl)) (by simp [go_sem, hP, hgl, hn, nextD, hlt, hg]) (by simp) ?_ hR.2 | refine W_endR hP hf hfn _ ([(b, deck l p)]) (by first | (simp [go_sem, hP, hgl, hn, nextD, hlt, hg]; done) | (simp [go_sem, hP, hgl, hn, nextD, hlt, hg]; rfl)) (by simp [go_sem, hP, hgl, hn, nextD, hlt, hg]) (by simp) ?_ hR.2
      rw [hR.1]
      refine ⟨?_, by simp [nextD, hlt, hg]⟩
      try simp [nextD, hlt, hg]
      try all_goals (simp [Ty.dv, Ty.cells_eq, Ty.kind_mk, Ty.args_mk, Tm.dv, Tm.cells_eq, Tm.kind_mk, Tm.index_mk, Tm.type_mk, Tm.args_mk, Val.dv, Val.cells_eq, Val.kind_mk, Val.num_mk, Val.list_mk, Val.args_mk, ints])
    · refine t_rg (j2 @hlt @hle) ?_
      refine t_a ?_
      refine W_cond rfl ?_ ?_
      · intro h; simp [hle] at h
      intro _
      obtain ⟨x, hx⟩ : ∃ x, l[p]? = some x := ⟨_, List.getElem?_eq_getElem (by omega)⟩
      have hg := ints_get hx
      refine t_rg @hg ?_
      refine t_rg0 ?_
      refine t_a ?_
      first | refine W_reg [] fun K hK => ?_ | refine W_regd (by rw [hP]; exact mixed) [] fun K hK => ?_
      refine t_s0 ?_
      refine t_c trivial (mod_ok x n (by omega) hn2) ?_
      refine t_e ?_
      clear hK K
      repeat (first | refine W_seq ?_ | refine W_skip ?_ | refine W_block ?_ | refine W_inBlock ?_ | refine W_label ?_ | refine W_exit rfl ?_)
      first | refine W_retR hP hf hfn _ ([(b, deck l (p + 1))]) (by first | (simp [go_sem, hP, hgl, hn, nextD, hlt, hx]; done) | (simp [go_sem, hP, hgl, hn, nextD, hlt, hx]; rfl)) (by simp [go_sem, hP, hgl, hn, nextD, hlt, hx]) (by simp) ?_ hR.2 | refine W_endR hP hf hfn _ ([(b, deck l (p + 1))]) (by first | (simp [go_sem, hP, hgl, hn, nextD, hlt, hx]; done) | (simp [go_sem, hP, hgl, hn, nextD, hlt, hx]; rfl)) (by simp [go_sem, hP, hgl, hn, nextD, hlt, hx]) (by simp) ?_ hR.2
      rw [hR.1]
      refine ⟨?_, by simp [nextD, hlt, hx]⟩
      try simp [nextD, hlt, hx]
      try all_goals (simp [Ty.dv, Ty.cells_eq, Ty.kind_mk, Ty.args_mk, Tm.dv, Tm.cells_eq, Tm.kind_mk, Tm.index_mk, Tm.type_mk, Tm.args_mk, Val.dv, Val.cells_eq, Val.kind_mk, Val.num_mk, Val.list_mk, Val.args_mk, ints])
end Go.Proofs.YtgfjcbofbbcnmaaDoor.Lift

namespace Go.Proofs.YtgfjcbofbbcnmaaDoor.Lift
set_option linter.unusedSimpArgs false
set_option linter.unusedVariables false
set_option linter.unnecessarySimpa false
open Go
variable {gl : Globs}

def wantI (k : Int) : Int := if k = 3 ∨ k = 4 then 2 else 0

end Go.Proofs.YtgfjcbofbbcnmaaDoor.Lift

namespace Go.Proofs.YtgfjcbofbbcnmaaDoor.Lift
set_option linter.unusedSimpArgs false
set_option linter.unusedVariables false
set_option linter.unnecessarySimpa false
open Go
variable {gl : Globs}

/-- the first error of a list of types -/
def errTys : List Ty → Int
  | [] => 0
  | t :: r => if t.checkN = 0 then errTys r else t.checkN
def ctxN (l : List Ty) : Int := if 16 < l.length then 3 else errTys l
def okNode (t : Tm) : Bool := decide ((t.args.length : Int) = arityI t.kind) && decide (0 ≤ t.index) && (decide (t.kind = 1) || decide (t.index = 0))

end Go.Proofs.YtgfjcbofbbcnmaaDoor.Lift

namespace Go.Proofs.YtgfjcbofbbcnmaaDoor.Lift
set_option linter.unusedSimpArgs false
set_option linter.unusedVariables false
set_option linter.unnecessarySimpa false
open Go
variable {gl : Globs}

/-- the package's table of arities -/
def arEls : List (List DV) := ints [0, 0, 1, 2, 0, 1, 3, 0, 2, 3, 2, 1, 1, 0]
def known (k : Int) : Bool := decide (1 ≤ k) && decide (k ≤ 13)
theorem arityI_known (k : Int) : known k = decide (0 ≤ arityI k) := by
  unfold known arityI
  by_cases h : 1 ≤ k ∧ k ≤ 13
  · have : k = 1 ∨ k = 2 ∨ k = 3 ∨ k = 4 ∨ k = 5 ∨ k = 6 ∨ k = 7 ∨ k = 8 ∨ k = 9 ∨ k = 10 ∨ k = 11 ∨ k = 12 ∨ k = 13 := by omega
    rcases this with rfl | rfl | rfl | rfl | rfl | rfl | rfl | rfl | rfl | rfl | rfl | rfl | rfl <;> decide
  · rw [if_neg (by omega), if_neg (by omega), if_neg (by omega), if_neg (by omega)]
    simp; omega

theorem arity_ok (har : globOf gl 0 = some arEls) (k : Int) : Con1 Tryd.prog gl 94 [dint k] [] (.tup [dint (if known k = true then arityI k else 0), dbool (known k)]) [] := by
  refine t_in Tryd.func94 ?_
  intro X hP hgl hf hfn hn hR hids hfit
  have hk := har
  simp only [arEls, ints, List.map] at hk
  by_cases hs0 : k = 1
  · refine t_g (j2 @hs0 @hk) ?_
    refine t_r ?_
    simp [go_sem, hP, hgl, hn, known, arityI, hs0] <;> (try omega)
  by_cases hs1 : k = 2
  · refine t_g (j2 @hs1 @hk) ?_
    refine t_r ?_
    simp [go_sem, hP, hgl, hn, known, arityI, hs1] <;> (try omega)
  by_cases hs2 : k = 3
  · refine t_g (j2 @hs2 @hk) ?_
    refine t_r ?_
    simp [go_sem, hP, hgl, hn, known, arityI, hs2] <;> (try omega)
  by_cases hs3 : k = 4
  · refine t_g (j2 @hs3 @hk) ?_
    refine t_r ?_
    simp [go_sem, hP, hgl, hn, known, arityI, hs3] <;> (try omega)
  by_cases hs4 : k = 5
  · refine t_g (j2 @hs4 @hk) ?_
    refine t_r ?_
    simp [go_sem, hP, hgl, hn, known, arityI, hs4] <;> (try omega)
  by_cases hs5 : k = 6
  · refine t_g (j2 @hs5 @hk) ?_
    refine t_r ?_
    simp [go_sem, hP, hgl, hn, known, arityI, hs5] <;> (try omega)
  by_cases hs6 : k = 7
  · refine t_g (j2 @hs6 @hk) ?_
    refine t_r ?_
    simp [go_sem, hP, hgl, hn, known, arityI, hs6] <;> (try omega)
  by_cases hs7 : k = 8
  · refine t_g (j2 @hs7 @hk) ?_
    refine t_r ?_
    simp [go_sem, hP, hgl, hn, known, arityI, hs7] <;> (try omega)
  by_cases hs8 : k = 9
  · refine t_g (j2 @hs8 @hk) ?_
    refine t_r ?_
    simp [go_sem, hP, hgl, hn, known, arityI, hs8] <;> (try omega)
  by_cases hs9 : k = 10
  · refine t_g (j2 @hs9 @hk) ?_
    refine t_r ?_
    simp [go_sem, hP, hgl, hn, known, arityI, hs9] <;> (try omega)
  by_cases hs10 : k = 11
  · refine t_g (j2 @hs10 @hk) ?_
    refine t_r ?_
    simp [go_sem, hP, hgl, hn, known, arityI, hs10] <;> (try omega)
  by_cases hs11 : k = 12
  · refine t_g (j2 @hs11 @hk) ?_
    refine t_r ?_
    simp [go_sem, hP, hgl, hn, known, arityI, hs11] <;> (try omega)
  by_cases hs12 : k = 13
  · refine t_g (j2 @hs12 @hk) ?_
    refine t_r ?_
    simp [go_sem, hP, hgl, hn, known, arityI, hs12] <;> (try omega)
  by_cases hlo : k < 1
  · have : known k = false := by simp [known]; omega
    refine t_g @hlo ?_
    refine t_r ?_
    simp [go_sem, hP, hgl, hn, this] <;> (try omega)
  · have hhi : 14 ≤ k := by omega
    have : known k = false := by simp [known]; omega
    refine t_g (j2 @hlo @hhi) ?_
    refine t_r ?_
    simp [go_sem, hP, hgl, hn, this] <;> (try omega)

theorem typed_ok (k : Int) : Con1 Tryd.prog gl 95 [dint k] [] (dbool (decide (k = 2) || decide (k = 6) || decide (k = 9))) [] := by
  refine t_in Tryd.func95 ?_
  intro X hP hgl hf hfn hn hR hids hfit
  by_cases hs0 : k = 2
  · refine t_g @hs0 ?_
    refine t_r ?_
    simp [go_sem, hP, hgl, hn, hs0] <;> (try omega)
  by_cases hs1 : k = 6
  · refine t_g @hs1 ?_
    refine t_r ?_
    simp [go_sem, hP, hgl, hn, hs1] <;> (try omega)
  by_cases hs2 : k = 9
  · refine t_g @hs2 ?_
    refine t_r ?_
    simp [go_sem, hP, hgl, hn, hs2] <;> (try omega)
  refine t_g (j2 @hs0 (j2 @hs1 @hs2)) ?_
  refine t_r ?_
  simp [go_sem, hP, hgl, hn, hs0, hs1, hs2] <;> (try omega)

theorem notype_ok (t : Ty) : Con1 Tryd.prog gl 96 [t.dv] [] (dbool t.zero) [] := by
  refine t_in Tryd.func96 ?_
  intro X hP hgl hf hfn hn hR hids hfit
  by_cases h : t.kind = 0
  · refine t_g @h ?_
    refine t_r ?_
    simp [go_sem, hP, hgl, hn, Ty.zero, h] <;> (try omega)
  · refine t_g @h ?_
    refine t_r ?_
    simp [go_sem, hP, hgl, hn, Ty.zero, h] <;> (try omega)

def Ty.nodesR (t : Ty) : DV := .tup [dint (if t.shape = true then t.count else 0 : Nat), dbool t.shape]

theorem typenodes_ok (t : Ty) (hc : t.count ≤ 2147483648) : Con1 Tryd.prog gl 92 [t.dv] [] t.nodesR [] := by
  induction t using Ty.ind with
  | h t ih =>
  rw [Ty.count_eq] at hc
  refine t_in Tryd.func92 ?_
  intro X hP hgl hf hfn hn hR hids hfit
  have hlen := Ty.fit_len (hfit t.dv (by simp))
  have hs := Ty.shape_eq t
  have no : t.shape = false → t.nodesR = .tup [dint 0, dbool false] := fun h => by simp [Ty.nodesR, h]
  refine t_rg0 ?_
  refine t_rg0 ?_
  refine t_rg0 ?_
  repeat (first | refine W_seq ?_ | refine W_skip ?_ | refine W_inBlock ?_ | refine W_label ?_)
  refine W_cutP (t.kind = 1 ∨ t.kind = 2 ∨ t.kind = 5 ∨ t.kind = 3 ∨ t.kind = 4) [(.slot 4, .one (.v (dint (wantI t.kind)))), (.loc 1, .row ([.v (dint t.kind), .v (.sl (t.args.map Ty.cells))])), (.slot 1, .one (.loc 1 0))] ?_ ?_
  · intro hrest
    by_cases h1 : t.kind = 1
    · repeat (first | (refine W_sub [] (by simp [go_sem]) (by simp [go_sem, wantI, h1] <;> omega) (by simp [go_sem]) (hrest (by simp [h1]))) | refine W_seq ?_ | refine W_skip ?_ | refine W_block ?_ | refine W_inBlock ?_ | refine W_label ?_ | refine W_exit rfl ?_ | ((first | refine W_reg [] fun K hK => ?_ | refine W_regd (by rw [hP]; exact mixed) [] fun K hK => ?_); simp [go_sem, hP, hgl, hn, h1]; (repeat (refine ⟨by omega, ?_⟩)); (first | refine hK _ ?_ | refine ⟨by rfl, hK _ ?_⟩); clear hK K) | refine W_cond rfl (fun _ => ?_) (fun hq => False.elim (by first | (simp [h1]; done) | (simp [h1]; omega) | (simp [h1] at hq; done) | (simp [h1] at hq; omega))) | refine W_cond rfl (fun hq => False.elim (by first | (simp [h1]; done) | (simp [h1]; omega) | (simp [h1] at hq; done) | (simp [h1] at hq; omega))) (fun _ => ?_))
    by_cases h2 : t.kind = 2
    · repeat (first | (refine W_sub [] (by simp [go_sem]) (by simp [go_sem, wantI, h2] <;> omega) (by simp [go_sem]) (hrest (by simp [h2]))) | refine W_seq ?_ | refine W_skip ?_ | refine W_block ?_ | refine W_inBlock ?_ | refine W_label ?_ | refine W_exit rfl ?_ | ((first | refine W_reg [] fun K hK => ?_ | refine W_regd (by rw [hP]; exact mixed) [] fun K hK => ?_); simp [go_sem, hP, hgl, hn, h2]; (repeat (refine ⟨by omega, ?_⟩)); (first | refine hK _ ?_ | refine ⟨by rfl, hK _ ?_⟩); clear hK K) | refine W_cond rfl (fun _ => ?_) (fun hq => False.elim (by first | (simp [h2]; done) | (simp [h2]; omega) | (simp [h2] at hq; done) | (simp [h2] at hq; omega))) | refine W_cond rfl (fun hq => False.elim (by first | (simp [h2]; done) | (simp [h2]; omega) | (simp [h2] at hq; done) | (simp [h2] at hq; omega))) (fun _ => ?_))
    by_cases h3 : t.kind = 5
    · repeat (first | (refine W_sub [] (by simp [go_sem]) (by simp [go_sem, wantI, h3] <;> omega) (by simp [go_sem]) (hrest (by simp [h3]))) | refine W_seq ?_ | refine W_skip ?_ | refine W_block ?_ | refine W_inBlock ?_ | refine W_label ?_ | refine W_exit rfl ?_ | ((first | refine W_reg [] fun K hK => ?_ | refine W_regd (by rw [hP]; exact mixed) [] fun K hK => ?_); simp [go_sem, hP, hgl, hn, h3]; (repeat (refine ⟨by omega, ?_⟩)); (first | refine hK _ ?_ | refine ⟨by rfl, hK _ ?_⟩); clear hK K) | refine W_cond rfl (fun _ => ?_) (fun hq => False.elim (by first | (simp [h3]; done) | (simp [h3]; omega) | (simp [h3] at hq; done) | (simp [h3] at hq; omega))) | refine W_cond rfl (fun hq => False.elim (by first | (simp [h3]; done) | (simp [h3]; omega) | (simp [h3] at hq; done) | (simp [h3] at hq; omega))) (fun _ => ?_))
    by_cases h4 : t.kind = 3
    · repeat (first | (refine W_sub [] (by simp [go_sem]) (by simp [go_sem, wantI, h4] <;> omega) (by simp [go_sem]) (hrest (by simp [h4]))) | refine W_seq ?_ | refine W_skip ?_ | refine W_block ?_ | refine W_inBlock ?_ | refine W_label ?_ | refine W_exit rfl ?_ | ((first | refine W_reg [] fun K hK => ?_ | refine W_regd (by rw [hP]; exact mixed) [] fun K hK => ?_); simp [go_sem, hP, hgl, hn, h4]; (repeat (refine ⟨by omega, ?_⟩)); (first | refine hK _ ?_ | refine ⟨by rfl, hK _ ?_⟩); clear hK K) | refine W_cond rfl (fun _ => ?_) (fun hq => False.elim (by first | (simp [h4]; done) | (simp [h4]; omega) | (simp [h4] at hq; done) | (simp [h4] at hq; omega))) | refine W_cond rfl (fun hq => False.elim (by first | (simp [h4]; done) | (simp [h4]; omega) | (simp [h4] at hq; done) | (simp [h4] at hq; omega))) (fun _ => ?_))
    by_cases h5 : t.kind = 4
    · repeat (first | (refine W_sub [] (by simp [go_sem]) (by simp [go_sem, wantI, h5] <;> omega) (by simp [go_sem]) (hrest (by simp [h5]))) | refine W_seq ?_ | refine W_skip ?_ | refine W_block ?_ | refine W_inBlock ?_ | refine W_label ?_ | refine W_exit rfl ?_ | ((first | refine W_reg [] fun K hK => ?_ | refine W_regd (by rw [hP]; exact mixed) [] fun K hK => ?_); simp [go_sem, hP, hgl, hn, h5]; (repeat (refine ⟨by omega, ?_⟩)); (first | refine hK _ ?_ | refine ⟨by rfl, hK _ ?_⟩); clear hK K) | refine W_cond rfl (fun _ => ?_) (fun hq => False.elim (by first | (simp [h5]; done) | (simp [h5]; omega) | (simp [h5] at hq; done) | (simp [h5] at hq; omega))) | refine W_cond rfl (fun hq => False.elim (by first | (simp [h5]; done) | (simp [h5]; omega) | (simp [h5] at hq; done) | (simp [h5] at hq; omega))) (fun _ => ?_))
    have hz := no (by rw [hs]; simp [tyKind, h1, h2, h3, h4, h5])
    refine t_g (j2 @h1 (j2 @h2 (j2 @h3 (j2 @h4 @h5)))) ?_
    refine t_r ?_
    simp [go_sem, hP, hgl, hn, hz] <;> (try omega)
  · intro hk
    by_cases hl : (t.args.length : Int) = wantI t.kind
    · have hty : tyKind t.kind t.args.length = true := by
        unfold wantI at hl
        unfold tyKind
        rcases hk with h | h | h | h | h <;> simp [h] at hl ⊢ <;> omega
      refine t_g @hl ?_
      refine t_a ?_
      refine W_sub [] (by simp [go_sem]) (by simp [go_sem, Ty.count.counts] <;> omega) (by simp [go_sem]) (W_listI (t.args) (fun done => Ty.shape.shapes done = true) (fun done rest => [(.slot 5, .one (.v (dint (1 + Ty.count.counts done : Nat)))), (.slot 27, .one (.v (dint done.length))), (.slot 26, .one (.v (dint t.args.length))), (.slot 25, .one (.v (.sl (t.args.map Ty.cells))))]) (rfl) ?_ ?_)
      · intro done x rest hL hg hI hnext
        have hlt : done.length < t.args.length := by rw [hL]; simp
        have hcx : Ty.count.counts t.args = Ty.count.counts done + (x.count + Ty.count.counts rest) := by rw [hL, Ty.counts_append]; rfl
        rw [Ty.counts_append] at hnext
        refine t_rg0 ?_
        refine t_yes ?_
        refine t_rg @hg ?_
        by_cases hx : x.shape = true
        · refine t_a ?_
          first | refine W_reg [] fun K hK => ?_ | refine W_regd (by rw [hP]; exact mixed) [] fun K hK => ?_
          simp [go_sem, hP, hgl, hn, hg, Ty.nodesR, hx]
          repeat (refine ⟨by omega, ?_⟩)
          first | refine vcK_call hP hgl (ih x (List.mem_of_getElem? hg) (by omega)) (by simp [go_sem, hP, hgl, hn, hg, Ty.nodesR, hx]) rfl (by simp [go_sem]) (by simp) (by rw [hn]; exact Nat.le_of_ble_eq_true rfl) ?_ | refine vcdC_call (fun _ _ => vcd_sound) hP hgl (ih x (List.mem_of_getElem? hg) (by omega)) (by simp [go_sem, hP, hgl, hn, hg, Ty.nodesR, hx]) rfl (by simp [go_sem]) (by simp) (by rw [hn]; exact Nat.le_of_ble_eq_true rfl) ?_ | refine vcK_callG hP hgl (ih x (List.mem_of_getElem? hg) (by omega)) (by simp [go_sem, hP, hgl, hn, hg, Ty.nodesR, hx]) rfl (by simp [go_sem]) (by simp) (by rw [hn]; exact Nat.le_of_ble_eq_true rfl) (by simp [go_sem]; rfl) (by rw [hn]; exact Nat.le_of_ble_eq_true rfl) (by simp [go_sem]) ?_ | refine vcdC_callG (fun _ _ => vcd_sound) hP hgl (ih x (List.mem_of_getElem? hg) (by omega)) (by simp [go_sem, hP, hgl, hn, hg, Ty.nodesR, hx]) rfl (by simp [go_sem]) (by simp) (by rw [hn]; exact Nat.le_of_ble_eq_true rfl) (by simp [go_sem]; rfl) (by rw [hn]; exact Nat.le_of_ble_eq_true rfl) (by simp [go_sem]) ?_
          simp [go_sem, hP, hgl, hn, hg, Ty.nodesR, hx]
          refine t_e ?_
          clear hK K
          repeat (first | (refine W_sub [] (by simp [go_sem]) (by simp [go_sem, Ty.count.counts] <;> omega) (by simp [go_sem]) (hnext (by rw [Ty.shapes_append]; simp [hI, Ty.shape.shapes, hx]))) | refine W_seq ?_ | refine W_skip ?_ | refine W_block ?_ | refine W_inBlock ?_ | refine W_label ?_ | refine W_exit rfl ?_ | ((first | refine W_reg [] fun K hK => ?_ | refine W_regd (by rw [hP]; exact mixed) [] fun K hK => ?_); simp [go_sem, hP, hgl, hn, hx]; (repeat (refine ⟨by omega, ?_⟩)); (first | refine hK _ ?_ | refine ⟨by rfl, hK _ ?_⟩); clear hK K) | refine W_cond rfl (fun _ => ?_) (fun hq => False.elim (by first | (simp [hx]; done) | (simp [hx]; omega) | (simp [hx] at hq; done) | (simp [hx] at hq; omega))) | refine W_cond rfl (fun hq => False.elim (by first | (simp [hx]; done) | (simp [hx]; omega) | (simp [hx] at hq; done) | (simp [hx] at hq; omega))) (fun _ => ?_))
        · have hz := no (by rw [hs, hL, Ty.shapes_append]; simp [Ty.shape.shapes, hx])
          refine t_a ?_
          first | refine W_reg [] fun K hK => ?_ | refine W_regd (by rw [hP]; exact mixed) [] fun K hK => ?_
          simp [go_sem, hP, hgl, hn, hg, Ty.nodesR, hx]
          repeat (refine ⟨by omega, ?_⟩)
          first | refine vcK_call hP hgl (ih x (List.mem_of_getElem? hg) (by omega)) (by simp [go_sem, hP, hgl, hn, hg, Ty.nodesR, hx]) rfl (by simp [go_sem]) (by simp) (by rw [hn]; exact Nat.le_of_ble_eq_true rfl) ?_ | refine vcdC_call (fun _ _ => vcd_sound) hP hgl (ih x (List.mem_of_getElem? hg) (by omega)) (by simp [go_sem, hP, hgl, hn, hg, Ty.nodesR, hx]) rfl (by simp [go_sem]) (by simp) (by rw [hn]; exact Nat.le_of_ble_eq_true rfl) ?_ | refine vcK_callG hP hgl (ih x (List.mem_of_getElem? hg) (by omega)) (by simp [go_sem, hP, hgl, hn, hg, Ty.nodesR, hx]) rfl (by simp [go_sem]) (by simp) (by rw [hn]; exact Nat.le_of_ble_eq_true rfl) (by simp [go_sem]; rfl) (by rw [hn]; exact Nat.le_of_ble_eq_true rfl) (by simp [go_sem]) ?_ | refine vcdC_callG (fun _ _ => vcd_sound) hP hgl (ih x (List.mem_of_getElem? hg) (by omega)) (by simp [go_sem, hP, hgl, hn, hg, Ty.nodesR, hx]) rfl (by simp [go_sem]) (by simp) (by rw [hn]; exact Nat.le_of_ble_eq_true rfl) (by simp [go_sem]; rfl) (by rw [hn]; exact Nat.le_of_ble_eq_true rfl) (by simp [go_sem]) ?_
          simp [go_sem, hP, hgl, hn, hg, Ty.nodesR, hx]
          refine t_e ?_
          clear hK K
          refine t_g @hx ?_
          refine t_r ?_
          simp [go_sem, hP, hgl, hn, hz] <;> (try omega)
      · intro hI
        have hz : t.nodesR = .tup [dint t.count, dbool true] := by simp [Ty.nodesR, hs, hty, hI]
        refine t_rg0 ?_
        refine t_no ?_
        refine t_g0 ?_
        refine t_r ?_
        simp [go_sem, hP, hgl, hn, hz, Ty.count_eq] <;> (try omega)
    · have hz := no (by
        rw [hs]
        have : tyKind t.kind t.args.length = false := by
          unfold wantI at hl
          unfold tyKind
          rcases hk with h | h | h | h | h <;> simp [h] at hl ⊢ <;> omega
        simp [this])
      refine t_g @hl ?_
      refine t_r ?_
      simp [go_sem, hP, hgl, hn, hz] <;> (try omega)

theorem checktype_ok (t : Ty) (hc : t.count ≤ 2147483648) : Con1 Tryd.prog gl 81 [t.dv] [] (.tup [dint (if t.checkN = 0 then t.count else 0 : Nat), dint t.checkN]) [] := by
  refine t_in Tryd.func81 ?_
  intro X hP hgl hf hfn hn hR hids hfit
  refine t_g0 ?_
  by_cases h : t.shape = true
  · refine t_a ?_
    first | refine W_reg [] fun K hK => ?_ | refine W_regd (by rw [hP]; exact mixed) [] fun K hK => ?_
    simp [go_sem, hP, hgl, hn, Ty.nodesR, h]
    repeat (refine ⟨by omega, ?_⟩)
    first | refine vcK_call hP hgl (typenodes_ok t hc) (by simp [go_sem, hP, hgl, hn, Ty.nodesR, h]) rfl (by simp [go_sem]) (by simp) (by rw [hn]; exact Nat.le_of_ble_eq_true rfl) ?_ | refine vcdC_call (fun _ _ => vcd_sound) hP hgl (typenodes_ok t hc) (by simp [go_sem, hP, hgl, hn, Ty.nodesR, h]) rfl (by simp [go_sem]) (by simp) (by rw [hn]; exact Nat.le_of_ble_eq_true rfl) ?_ | refine vcK_callG hP hgl (typenodes_ok t hc) (by simp [go_sem, hP, hgl, hn, Ty.nodesR, h]) rfl (by simp [go_sem]) (by simp) (by rw [hn]; exact Nat.le_of_ble_eq_true rfl) (by simp [go_sem]; rfl) (by rw [hn]; exact Nat.le_of_ble_eq_true rfl) (by simp [go_sem]) ?_ | refine vcdC_callG (fun _ _ => vcd_sound) hP hgl (typenodes_ok t hc) (by simp [go_sem, hP, hgl, hn, Ty.nodesR, h]) rfl (by simp [go_sem]) (by simp) (by rw [hn]; exact Nat.le_of_ble_eq_true rfl) (by simp [go_sem]; rfl) (by rw [hn]; exact Nat.le_of_ble_eq_true rfl) (by simp [go_sem]) ?_
    simp [go_sem, hP, hgl, hn, Ty.nodesR, h]
    refine t_e ?_
    clear hK K
    by_cases h2 : 64 < t.count
    · refine t_g (j2 @h @h2) ?_
      refine t_r ?_
      simp [go_sem, hP, hgl, hn, Ty.checkN, h, h2] <;> (try omega)
    · refine t_g (j2 @h @h2) ?_
      refine t_r ?_
      simp [go_sem, hP, hgl, hn, Ty.checkN, h, h2] <;> (try omega)
  · refine t_a ?_
    first | refine W_reg [] fun K hK => ?_ | refine W_regd (by rw [hP]; exact mixed) [] fun K hK => ?_
    simp [go_sem, hP, hgl, hn, Ty.nodesR, h]
    repeat (refine ⟨by omega, ?_⟩)
    first | refine vcK_call hP hgl (typenodes_ok t hc) (by simp [go_sem, hP, hgl, hn, Ty.nodesR, h]) rfl (by simp [go_sem]) (by simp) (by rw [hn]; exact Nat.le_of_ble_eq_true rfl) ?_ | refine vcdC_call (fun _ _ => vcd_sound) hP hgl (typenodes_ok t hc) (by simp [go_sem, hP, hgl, hn, Ty.nodesR, h]) rfl (by simp [go_sem]) (by simp) (by rw [hn]; exact Nat.le_of_ble_eq_true rfl) ?_ | refine vcK_callG hP hgl (typenodes_ok t hc) (by simp [go_sem, hP, hgl, hn, Ty.nodesR, h]) rfl (by simp [go_sem]) (by simp) (by rw [hn]; exact Nat.le_of_ble_eq_true rfl) (by simp [go_sem]; rfl) (by rw [hn]; exact Nat.le_of_ble_eq_true rfl) (by simp [go_sem]) ?_ | refine vcdC_callG (fun _ _ => vcd_sound) hP hgl (typenodes_ok t hc) (by simp [go_sem, hP, hgl, hn, Ty.nodesR, h]) rfl (by simp [go_sem]) (by simp) (by rw [hn]; exact Nat.le_of_ble_eq_true rfl) (by simp [go_sem]; rfl) (by rw [hn]; exact Nat.le_of_ble_eq_true rfl) (by simp [go_sem]) ?_
    simp [go_sem, hP, hgl, hn, Ty.nodesR, h]
    refine t_e ?_
    clear hK K
    refine t_g @h ?_
    refine t_r ?_
    simp [go_sem, hP, hgl, hn, Ty.checkN, h] <;> (try omega)

def okNodeP (t : Tm) : Bool := known t.kind && decide ((t.args.length : Int) = arityI t.kind) && decide (0 ≤ t.index) && (decide (t.index = 0) || decide (t.kind = 1))
theorem okNodeP_eq (t : Tm) : okNodeP t = okNode t := by
  unfold okNodeP okNode
  rw [arityI_known]
  cases h : decide ((t.args.length : Int) = arityI t.kind) with
  | false => simp
  | true =>
    have h1 : (t.args.length : Int) = arityI t.kind := by simpa using h
    have : decide (0 ≤ arityI t.kind) = true := by simp; omega
    rw [this]
    cases decide (0 ≤ t.index) <;> cases decide (t.index = 0) <;> cases decide (t.kind = 1) <;> rfl

def Tm.nodesR (t : Tm) : DV := .tup [dint (if t.shape = true then t.count else 0 : Nat), dbool t.shape]

theorem termnodes_ok (har : globOf gl 0 = some arEls) (t : Tm) (ht : t.tys) (hc : t.count ≤ 2147483648) : Con1 Tryd.prog gl 84 [t.dv] [] t.nodesR [] := by
  induction t using Tm.ind with
  | h t ih =>
  obtain ⟨ht1, ht2⟩ := (Tm.tys_eq t).1 ht
  rw [Tm.count_eq] at hc
  refine t_in Tryd.func84 ?_
  intro X hP hgl hf hfn hn hR hids hfit
  have hlen := Tm.fit_len (hfit t.dv (by simp))
  have hs := Tm.shape_eq t
  have no : t.shape = false → t.nodesR = .tup [dint 0, dbool false] := fun h => by simp [Tm.nodesR, h]
  refine t_g0 ?_
  refine t_c1 trivial (arity_ok har t.kind) ?_
  repeat (first | refine W_seq ?_ | refine W_skip ?_ | refine W_inBlock ?_ | refine W_label ?_)
  refine W_cut [(.slot 42, .one (.v (dbool (!okNodeP t)))), (.loc 1, .row ([.v (dint t.kind), .v (dint t.index), .v (dint t.type.kind), .v (.sl (t.type.args.map Ty.cells)), .v (.sl (t.args.map Tm.cells))])), (.slot 1, .one (.loc 1 0))] ?_ ?_
  · intro hrest
    by_cases h0 : known t.kind = true
    · by_cases hA : (t.args.length : Int) = arityI t.kind
      · by_cases hB : t.index < 0
        · refine t_rg (j2 @h0 (j2 @hA @hB)) ?_
          repeat (first | refine W_inBlock ?_ | refine W_skip ?_ | refine W_label ?_ | refine W_exit rfl ?_)
          refine W_sub [] (by simp [go_sem]) (by simp [go_sem, okNodeP, h0, hA, hB] <;> omega) (by simp [go_sem]) hrest
        · by_cases hD : t.index = 0
          · refine t_rg (j2 @h0 (j2 @hA (j2 @hB @hD))) ?_
            repeat (first | refine W_inBlock ?_ | refine W_skip ?_ | refine W_label ?_ | refine W_exit rfl ?_)
            refine W_sub [] (by simp [go_sem]) (by simp [go_sem, okNodeP, h0, hA, hB, hD] <;> omega) (by simp [go_sem]) hrest
          · by_cases hC : t.kind = 1
            · have h01 : known 1 = true := rfl
              refine t_rg (j2 @h0 (j2 @hA (j2 @hB (j2 @hD (j2 @hC @h01))))) ?_
              repeat (first | refine W_inBlock ?_ | refine W_skip ?_ | refine W_label ?_ | refine W_exit rfl ?_)
              refine W_sub [] (by simp [go_sem]) (by simp [go_sem, okNodeP, h0, hA, hB, hD, hC, h01] <;> omega) (by simp [go_sem]) hrest
            · refine t_rg (j2 @h0 (j2 @hA (j2 @hB (j2 @hD @hC)))) ?_
              repeat (first | refine W_inBlock ?_ | refine W_skip ?_ | refine W_label ?_ | refine W_exit rfl ?_)
              refine W_sub [] (by simp [go_sem]) (by simp [go_sem, okNodeP, h0, hA, hB, hD, hC] <;> omega) (by simp [go_sem]) hrest
      · refine t_rg (j2 @h0 @hA) ?_
        repeat (first | refine W_inBlock ?_ | refine W_skip ?_ | refine W_label ?_ | refine W_exit rfl ?_)
        refine W_sub [] (by simp [go_sem]) (by simp [go_sem, okNodeP, h0, hA] <;> omega) (by simp [go_sem]) hrest
    · refine t_rg @h0 ?_
      repeat (first | refine W_inBlock ?_ | refine W_skip ?_ | refine W_label ?_ | refine W_exit rfl ?_)
      refine W_sub [] (by simp [go_sem]) (by simp [go_sem, okNodeP, h0] <;> omega) (by simp [go_sem]) hrest
  · rw [okNodeP_eq]
    by_cases hok : okNode t = true
    · have hk : tmKind t.kind t.index t.type t.args.length = tyOfKind t.kind t.type := by
        simp only [okNode, Bool.and_eq_true, decide_eq_true_eq] at hok
        simp [tmKind, hok]
      refine t_n @hok ?_
      refine t_c1 trivial (typed_ok t.kind) ?_
      repeat (first | refine W_seq ?_ | refine W_skip ?_ | refine W_inBlock ?_ | refine W_label ?_)
      refine W_cutP (tyOfKind t.kind t.type = true) [(.loc 1, .row ([.v (dint t.kind), .v (dint t.index), .v (dint t.type.kind), .v (.sl (t.type.args.map Ty.cells)), .v (.sl (t.args.map Tm.cells))])), (.slot 1, .one (.loc 1 0))] ?_ ?_
      · intro hrest
        by_cases k2 : t.kind = 2
        · refine t_g @k2 ?_
          refine t_c1 trivial (checktype_ok t.type (by omega)) ?_
          by_cases hc : t.type.checkN = 0
          · refine t_gt (wr []) @k2 (j2 @k2 @hc) (hrest (by simp [tyOfKind, k2, hc]))
          · have hz := no (by rw [hs, hk]; simp [tyOfKind, k2, hc])
            refine t_g @hc ?_
            refine t_r ?_
            simp [go_sem, hP, hgl, hn, hz] <;> (try omega)
        by_cases k6 : t.kind = 6
        · refine t_g @k6 ?_
          refine t_c1 trivial (checktype_ok t.type (by omega)) ?_
          by_cases hc : t.type.checkN = 0
          · refine t_gt (wr []) @k6 (j2 @k6 @hc) (hrest (by simp [tyOfKind, k6, hc]))
          · have hz := no (by rw [hs, hk]; simp [tyOfKind, k6, hc])
            refine t_g @hc ?_
            refine t_r ?_
            simp [go_sem, hP, hgl, hn, hz] <;> (try omega)
        by_cases k9 : t.kind = 9
        · refine t_g @k9 ?_
          refine t_c1 trivial (checktype_ok t.type (by omega)) ?_
          by_cases hc : t.type.checkN = 0
          · refine t_gt (wr []) @k9 (j2 @k9 @hc) (hrest (by simp [tyOfKind, k9, hc]))
          · have hz := no (by rw [hs, hk]; simp [tyOfKind, k9, hc])
            refine t_g @hc ?_
            refine t_r ?_
            simp [go_sem, hP, hgl, hn, hz] <;> (try omega)
        refine t_g (j2 @k2 (j2 @k6 @k9)) ?_
        refine t_c1 trivial (notype_ok t.type) ?_
        by_cases hc : t.type.zero = true
        · refine t_gt (wr []) trivial @hc (hrest (by simp [tyOfKind, k2, k6, k9, hc]))
        · have hz := no (by rw [hs, hk]; simp [tyOfKind, k2, k6, k9, hc])
          refine t_g @hc ?_
          refine t_r ?_
          simp [go_sem, hP, hgl, hn, hz] <;> (try omega)
      · intro hty
        refine t_g0 ?_
        refine t_a ?_
        refine W_sub [] (by simp [go_sem]) (by simp [go_sem, Tm.count.counts] <;> omega) (by simp [go_sem]) (W_listI (t.args) (fun done => Tm.shape.shapes done = true) (fun done rest => [(.slot 8, .one (.v (dint (1 + Tm.count.counts done : Nat)))), (.slot 61, .one (.v (dint done.length))), (.slot 60, .one (.v (dint t.args.length))), (.slot 59, .one (.v (.sl (t.args.map Tm.cells))))]) (rfl) ?_ ?_)
        · intro done x rest hL hg hI hnext
          have hlt : done.length < t.args.length := by rw [hL]; simp
          have hcx : Tm.count.counts t.args = Tm.count.counts done + (x.count + Tm.count.counts rest) := by rw [hL, Tm.counts_append]; rfl
          rw [Tm.counts_append] at hnext
          refine t_rg0 ?_
          refine t_yes ?_
          refine t_rg @hg ?_
          by_cases hx : x.shape = true
          · refine t_a ?_
            first | refine W_reg [] fun K hK => ?_ | refine W_regd (by rw [hP]; exact mixed) [] fun K hK => ?_
            simp [go_sem, hP, hgl, hn, hg, Tm.nodesR, hx]
            repeat (refine ⟨by omega, ?_⟩)
            first | refine vcK_call hP hgl (ih x (List.mem_of_getElem? hg) (ht2 x (List.mem_of_getElem? hg)) (by omega)) (by simp [go_sem, hP, hgl, hn, hg, Tm.nodesR, hx]) rfl (by simp [go_sem]) (by simp) (by rw [hn]; exact Nat.le_of_ble_eq_true rfl) ?_ | refine vcdC_call (fun _ _ => vcd_sound) hP hgl (ih x (List.mem_of_getElem? hg) (ht2 x (List.mem_of_getElem? hg)) (by omega)) (by simp [go_sem, hP, hgl, hn, hg, Tm.nodesR, hx]) rfl (by simp [go_sem]) (by simp) (by rw [hn]; exact Nat.le_of_ble_eq_true rfl) ?_ | refine vcK_callG hP hgl (ih x (List.mem_of_getElem? hg) (ht2 x (List.mem_of_getElem? hg)) (by omega)) (by simp [go_sem, hP, hgl, hn, hg, Tm.nodesR, hx]) rfl (by simp [go_sem]) (by simp) (by rw [hn]; exact Nat.le_of_ble_eq_true rfl) (by simp [go_sem]; rfl) (by rw [hn]; exact Nat.le_of_ble_eq_true rfl) (by simp [go_sem]) ?_ | refine vcdC_callG (fun _ _ => vcd_sound) hP hgl (ih x (List.mem_of_getElem? hg) (ht2 x (List.mem_of_getElem? hg)) (by omega)) (by simp [go_sem, hP, hgl, hn, hg, Tm.nodesR, hx]) rfl (by simp [go_sem]) (by simp) (by rw [hn]; exact Nat.le_of_ble_eq_true rfl) (by simp [go_sem]; rfl) (by rw [hn]; exact Nat.le_of_ble_eq_true rfl) (by simp [go_sem]) ?_
            simp [go_sem, hP, hgl, hn, hg, Tm.nodesR, hx]
            refine t_e ?_
            clear hK K
            repeat (first | (refine W_sub [] (by simp [go_sem]) (by simp [go_sem, Tm.count.counts] <;> omega) (by simp [go_sem]) (hnext (by rw [Tm.shapes_append]; simp [hI, Tm.shape.shapes, hx]))) | refine W_seq ?_ | refine W_skip ?_ | refine W_block ?_ | refine W_inBlock ?_ | refine W_label ?_ | refine W_exit rfl ?_ | ((first | refine W_reg [] fun K hK => ?_ | refine W_regd (by rw [hP]; exact mixed) [] fun K hK => ?_); simp [go_sem, hP, hgl, hn, hx]; (repeat (refine ⟨by omega, ?_⟩)); (first | refine hK _ ?_ | refine ⟨by rfl, hK _ ?_⟩); clear hK K) | refine W_cond rfl (fun _ => ?_) (fun hq => False.elim (by first | (simp [hx]; done) | (simp [hx]; omega) | (simp [hx] at hq; done) | (simp [hx] at hq; omega))) | refine W_cond rfl (fun hq => False.elim (by first | (simp [hx]; done) | (simp [hx]; omega) | (simp [hx] at hq; done) | (simp [hx] at hq; omega))) (fun _ => ?_))
          · have hz := no (by rw [hs, hL, Tm.shapes_append]; simp [Tm.shape.shapes, hx])
            refine t_a ?_
            first | refine W_reg [] fun K hK => ?_ | refine W_regd (by rw [hP]; exact mixed) [] fun K hK => ?_
            simp [go_sem, hP, hgl, hn, hg, Tm.nodesR, hx]
            repeat (refine ⟨by omega, ?_⟩)
            first | refine vcK_call hP hgl (ih x (List.mem_of_getElem? hg) (ht2 x (List.mem_of_getElem? hg)) (by omega)) (by simp [go_sem, hP, hgl, hn, hg, Tm.nodesR, hx]) rfl (by simp [go_sem]) (by simp) (by rw [hn]; exact Nat.le_of_ble_eq_true rfl) ?_ | refine vcdC_call (fun _ _ => vcd_sound) hP hgl (ih x (List.mem_of_getElem? hg) (ht2 x (List.mem_of_getElem? hg)) (by omega)) (by simp [go_sem, hP, hgl, hn, hg, Tm.nodesR, hx]) rfl (by simp [go_sem]) (by simp) (by rw [hn]; exact Nat.le_of_ble_eq_true rfl) ?_ | refine vcK_callG hP hgl (ih x (List.mem_of_getElem? hg) (ht2 x (List.mem_of_getElem? hg)) (by omega)) (by simp [go_sem, hP, hgl, hn, hg, Tm.nodesR, hx]) rfl (by simp [go_sem]) (by simp) (by rw [hn]; exact Nat.le_of_ble_eq_true rfl) (by simp [go_sem]; rfl) (by rw [hn]; exact Nat.le_of_ble_eq_true rfl) (by simp [go_sem]) ?_ | refine vcdC_callG (fun _ _ => vcd_sound) hP hgl (ih x (List.mem_of_getElem? hg) (ht2 x (List.mem_of_getElem? hg)) (by omega)) (by simp [go_sem, hP, hgl, hn, hg, Tm.nodesR, hx]) rfl (by simp [go_sem]) (by simp) (by rw [hn]; exact Nat.le_of_ble_eq_true rfl) (by simp [go_sem]; rfl) (by rw [hn]; exact Nat.le_of_ble_eq_true rfl) (by simp [go_sem]) ?_
            simp [go_sem, hP, hgl, hn, hg, Tm.nodesR, hx]
            refine t_e ?_
            clear hK K
            refine t_g @hx ?_
            refine t_r ?_
            simp [go_sem, hP, hgl, hn, hz] <;> (try omega)
        · intro hI
          have hz : t.nodesR = .tup [dint t.count, dbool true] := by simp [Tm.nodesR, hs, hk, hty, hI]
          refine t_rg0 ?_
          refine t_no ?_
          refine t_g0 ?_
          refine t_r ?_
          simp [go_sem, hP, hgl, hn, hz, Tm.count_eq] <;> (try omega)
    · have hk : tmKind t.kind t.index t.type t.args.length = false := by
        simp only [okNode, Bool.and_eq_true, decide_eq_true_eq] at hok
        simp only [tmKind]
        cases hh : (decide ((t.args.length : Int) = arityI t.kind) && decide (0 ≤ t.index) && (decide (t.kind = 1) || decide (t.index = 0))) with
        | true => exact absurd (by simpa using hh) hok
        | false => rfl
      have hz := no (by rw [hs, hk]; rfl)
      refine t_g @hok ?_
      refine t_r ?_
      simp [go_sem, hP, hgl, hn, hz] <;> (try omega)
end Go.Proofs.YtgfjcbofbbcnmaaDoor.Lift

namespace Go.Proofs.YtgfjcbofbbcnmaaDoor.Lift
set_option linter.unusedSimpArgs false
set_option linter.unusedVariables false
set_option linter.unnecessarySimpa false
open Go
variable {gl : Globs}

theorem nextD_le {l : List Int} {p : Nat} {n : Int} (h : p ≤ l.length) : (nextD l p n).2 ≤ l.length := by
  unfold nextD
  split
  · exact h
  · split
    · rename_i x hx
      have := (List.getElem?_eq_some_iff.1 hx).1
      simp only; omega
    · exact h

theorem nextD_bd {l : List Int} {p : Nat} {n : Int} (h : 1 ≤ n) : 0 ≤ (nextD l p n).1 ∧ (nextD l p n).1 < n := by
  unfold nextD
  rw [if_neg (by omega)]
  split
  · rename_i x hx
    have := modz_bd x n h
    exact ⟨this.1, this.2.1⟩
  · exact ⟨by simp, by simp; omega⟩

def plainD (l : List Int) (p : Nat) : Ty × Nat :=
  let k := (nextD l p 6).1
  (if k = 0 ∨ k = 1 then Ty.mk 1 [] else if k = 2 then Ty.mk 2 [] else if k = 3 then Ty.mk 5 [] else if k = 4 then Ty.mk 3 [Ty.mk 1 [], Ty.mk 2 []] else Ty.mk 3 [Ty.mk 1 [], Ty.mk 1 []], (nextD l p 6).2)

theorem plain_ok (b : Nat) (l : List Int) (p : Nat) (hl : l.length ≤ 500) (hp : p ≤ l.length) :
    Con1 Tryd.prog gl 10 [ptr b] [(b, deck l p)] (plainD l p).1.dv [(b, deck l (plainD l p).2)] := by
  refine t_in Tryd.func10 ?_
  intro X hP hgl hf hfn hn hR hids hfit
  have hp1 := nextD_le (n := 6) hp
  refine t_rg0 ?_
  refine t_a ?_
  first | refine W_reg [] fun K hK => ?_ | refine W_regd (by rw [hP]; exact mixed) [] fun K hK => ?_
  refine t_s0 ?_
  refine t_c trivial (next_ok b l p 6 (by decide) (by omega)) ?_
  refine t_e ?_
  clear hK K
  have hkb := nextD_bd (l := l) (p := p) (n := 6) (by decide)
  generalize hd : nextD l p 6 = d at *
  obtain ⟨k, q⟩ := d
  by_cases h0 : k = 0
  · refine t_rg @h0 ?_
    refine t_a ?_
    refine W_cond rfl ?_ ?_
    rotate_left
    · intro h; simp at h
    intro _
    refine t_a ?_
    refine W_cond rfl ?_ ?_
    rotate_left
    · intro h; simp at h
    intro _
    refine t_a ?_
    first | refine W_reg [] fun K hK => ?_ | refine W_regd (by rw [hP]; exact mixed) [] fun K hK => ?_
    refine t_s0 ?_
    refine t_c trivial (ref01_nat_ok) ?_
    refine t_e ?_
    clear hK K
    repeat (first | refine W_seq ?_ | refine W_skip ?_ | refine W_block ?_ | refine W_inBlock ?_ | refine W_label ?_ | refine W_exit rfl ?_)
    first | refine W_retR hP hf hfn _ ([(b, deck l q)]) (by first | (simp [go_sem, hP, hgl, hn, plainD, hd, h0]; done) | (simp [go_sem, hP, hgl, hn, plainD, hd, h0]; rfl)) (by simp [go_sem, hP, hgl, hn, plainD, hd, h0]) (by simp) ?_ hR.2 | refine W_endR hP hf hfn _ ([(b, deck l q)]) (by first | (simp [go_sem, hP, hgl, hn, plainD, hd, h0]; done) | (simp [go_sem, hP, hgl, hn, plainD, hd, h0]; rfl)) (by simp [go_sem, hP, hgl, hn, plainD, hd, h0]) (by simp) ?_ hR.2
    rw [hR.1]
    refine ⟨?_, by simp [plainD, hd, h0]⟩
    try simp [plainD, hd, h0]
    try all_goals (simp [Ty.dv, Ty.cells_eq, Ty.kind_mk, Ty.args_mk, Tm.dv, Tm.cells_eq, Tm.kind_mk, Tm.index_mk, Tm.type_mk, Tm.args_mk, Val.dv, Val.cells_eq, Val.kind_mk, Val.num_mk, Val.list_mk, Val.args_mk, ints])
  by_cases h1 : k = 1
  · refine t_rg @h1 ?_
    refine t_a ?_
    refine W_cond rfl ?_ ?_
    · intro h; simp at h
    intro _
    refine t_rg @h1 ?_
    refine t_a ?_
    refine W_cond rfl ?_ ?_
    rotate_left
    · intro h; simp at h
    intro _
    refine t_a ?_
    first | refine W_reg [] fun K hK => ?_ | refine W_regd (by rw [hP]; exact mixed) [] fun K hK => ?_
    refine t_s0 ?_
    refine t_c trivial (ref01_nat_ok) ?_
    refine t_e ?_
    clear hK K
    repeat (first | refine W_seq ?_ | refine W_skip ?_ | refine W_block ?_ | refine W_inBlock ?_ | refine W_label ?_ | refine W_exit rfl ?_)
    first | refine W_retR hP hf hfn _ ([(b, deck l q)]) (by first | (simp [go_sem, hP, hgl, hn, plainD, hd, h1]; done) | (simp [go_sem, hP, hgl, hn, plainD, hd, h1]; rfl)) (by simp [go_sem, hP, hgl, hn, plainD, hd, h1]) (by simp) ?_ hR.2 | refine W_endR hP hf hfn _ ([(b, deck l q)]) (by first | (simp [go_sem, hP, hgl, hn, plainD, hd, h1]; done) | (simp [go_sem, hP, hgl, hn, plainD, hd, h1]; rfl)) (by simp [go_sem, hP, hgl, hn, plainD, hd, h1]) (by simp) ?_ hR.2
    rw [hR.1]
    refine ⟨?_, by simp [plainD, hd, h1]⟩
    try simp [plainD, hd, h1]
    try all_goals (simp [Ty.dv, Ty.cells_eq, Ty.kind_mk, Ty.args_mk, Tm.dv, Tm.cells_eq, Tm.kind_mk, Tm.index_mk, Tm.type_mk, Tm.args_mk, Val.dv, Val.cells_eq, Val.kind_mk, Val.num_mk, Val.list_mk, Val.args_mk, ints])
  by_cases h2 : k = 2
  · refine t_rg @h2 ?_
    refine t_a ?_
    refine W_cond rfl ?_ ?_
    · intro h; simp at h
    intro _
    refine t_rg @h2 ?_
    refine t_a ?_
    refine W_cond rfl ?_ ?_
    · intro h; simp at h
    intro _
    refine t_rg @h2 ?_
    refine t_a ?_
    refine W_cond rfl ?_ ?_
    rotate_left
    · intro h; simp at h
    intro _
    refine t_a ?_
    first | refine W_reg [] fun K hK => ?_ | refine W_regd (by rw [hP]; exact mixed) [] fun K hK => ?_
    refine t_s0 ?_
    refine t_c trivial (ref01_list_ok) ?_
    refine t_e ?_
    clear hK K
    repeat (first | refine W_seq ?_ | refine W_skip ?_ | refine W_block ?_ | refine W_inBlock ?_ | refine W_label ?_ | refine W_exit rfl ?_)
    first | refine W_retR hP hf hfn _ ([(b, deck l q)]) (by first | (simp [go_sem, hP, hgl, hn, plainD, hd, h2]; done) | (simp [go_sem, hP, hgl, hn, plainD, hd, h2]; rfl)) (by simp [go_sem, hP, hgl, hn, plainD, hd, h2]) (by simp) ?_ hR.2 | refine W_endR hP hf hfn _ ([(b, deck l q)]) (by first | (simp [go_sem, hP, hgl, hn, plainD, hd, h2]; done) | (simp [go_sem, hP, hgl, hn, plainD, hd, h2]; rfl)) (by simp [go_sem, hP, hgl, hn, plainD, hd, h2]) (by simp) ?_ hR.2
    rw [hR.1]
    refine ⟨?_, by simp [plainD, hd, h2]⟩
    try simp [plainD, hd, h2]
    try all_goals (simp [Ty.dv, Ty.cells_eq, Ty.kind_mk, Ty.args_mk, Tm.dv, Tm.cells_eq, Tm.kind_mk, Tm.index_mk, Tm.type_mk, Tm.args_mk, Val.dv, Val.cells_eq, Val.kind_mk, Val.num_mk, Val.list_mk, Val.args_mk, ints])
  by_cases h3 : k = 3
  · refine t_rg @h3 ?_
    refine t_a ?_
    refine W_cond rfl ?_ ?_
    · intro h; simp at h
    intro _
    refine t_rg @h3 ?_
    refine t_a ?_
    refine W_cond rfl ?_ ?_
    · intro h; simp at h
    intro _
    refine t_rg @h3 ?_
    refine t_a ?_
    refine W_cond rfl ?_ ?_
    · intro h; simp at h
    intro _
    refine t_rg @h3 ?_
    refine t_a ?_
    refine W_cond rfl ?_ ?_
    rotate_left
    · intro h; simp at h
    intro _
    refine t_a ?_
    first | refine W_reg [] fun K hK => ?_ | refine W_regd (by rw [hP]; exact mixed) [] fun K hK => ?_
    refine t_s0 ?_
    refine t_c trivial (ref01_unit_ok) ?_
    refine t_e ?_
    clear hK K
    repeat (first | refine W_seq ?_ | refine W_skip ?_ | refine W_block ?_ | refine W_inBlock ?_ | refine W_label ?_ | refine W_exit rfl ?_)
    first | refine W_retR hP hf hfn _ ([(b, deck l q)]) (by first | (simp [go_sem, hP, hgl, hn, plainD, hd, h3]; done) | (simp [go_sem, hP, hgl, hn, plainD, hd, h3]; rfl)) (by simp [go_sem, hP, hgl, hn, plainD, hd, h3]) (by simp) ?_ hR.2 | refine W_endR hP hf hfn _ ([(b, deck l q)]) (by first | (simp [go_sem, hP, hgl, hn, plainD, hd, h3]; done) | (simp [go_sem, hP, hgl, hn, plainD, hd, h3]; rfl)) (by simp [go_sem, hP, hgl, hn, plainD, hd, h3]) (by simp) ?_ hR.2
    rw [hR.1]
    refine ⟨?_, by simp [plainD, hd, h3]⟩
    try simp [plainD, hd, h3]
    try all_goals (simp [Ty.dv, Ty.cells_eq, Ty.kind_mk, Ty.args_mk, Tm.dv, Tm.cells_eq, Tm.kind_mk, Tm.index_mk, Tm.type_mk, Tm.args_mk, Val.dv, Val.cells_eq, Val.kind_mk, Val.num_mk, Val.list_mk, Val.args_mk, ints])
  by_cases h4 : k = 4
  · refine t_rg @h4 ?_
    refine t_a ?_
    refine W_cond rfl ?_ ?_
    · intro h; simp at h
    intro _
    refine t_rg @h4 ?_
    refine t_a ?_
    refine W_cond rfl ?_ ?_
    · intro h; simp at h
    intro _
    refine t_rg @h4 ?_
    refine t_a ?_
    refine W_cond rfl ?_ ?_
    · intro h; simp at h
    intro _
    refine t_rg @h4 ?_
    refine t_a ?_
    refine W_cond rfl ?_ ?_
    · intro h; simp at h
    intro _
    refine t_rg @h4 ?_
    refine t_a ?_
    refine W_cond rfl ?_ ?_
    rotate_left
    · intro h; simp at h
    intro _
    refine t_a ?_
    first | refine W_reg [] fun K hK => ?_ | refine W_regd (by rw [hP]; exact mixed) [] fun K hK => ?_
    refine t_s0 ?_
    refine t_c trivial (ref01_nat_ok) ?_
    refine t_c trivial (ref01_list_ok) ?_
    refine t_c trivial (ref01_two_ok (Ty.mk 1 []) (Ty.mk 2 [])) ?_
    refine t_e ?_
    clear hK K
    repeat (first | refine W_seq ?_ | refine W_skip ?_ | refine W_block ?_ | refine W_inBlock ?_ | refine W_label ?_ | refine W_exit rfl ?_)
    first | refine W_retR hP hf hfn _ ([(b, deck l q)]) (by first | (simp [go_sem, hP, hgl, hn, plainD, hd, h4]; done) | (simp [go_sem, hP, hgl, hn, plainD, hd, h4]; rfl)) (by simp [go_sem, hP, hgl, hn, plainD, hd, h4]) (by simp) ?_ hR.2 | refine W_endR hP hf hfn _ ([(b, deck l q)]) (by first | (simp [go_sem, hP, hgl, hn, plainD, hd, h4]; done) | (simp [go_sem, hP, hgl, hn, plainD, hd, h4]; rfl)) (by simp [go_sem, hP, hgl, hn, plainD, hd, h4]) (by simp) ?_ hR.2
    rw [hR.1]
    refine ⟨?_, by simp [plainD, hd, h4]⟩
    try simp [plainD, hd, h4]
    try all_goals (simp [Ty.dv, Ty.cells_eq, Ty.kind_mk, Ty.args_mk, Tm.dv, Tm.cells_eq, Tm.kind_mk, Tm.index_mk, Tm.type_mk, Tm.args_mk, Val.dv, Val.cells_eq, Val.kind_mk, Val.num_mk, Val.list_mk, Val.args_mk, ints])
  · have h5 : k = 5 := by simp at hkb; omega
    refine t_rg @h5 ?_
    refine t_a ?_
    refine W_cond rfl ?_ ?_
    · intro h; simp at h
    intro _
    refine t_rg @h5 ?_
    refine t_a ?_
    refine W_cond rfl ?_ ?_
    · intro h; simp at h
    intro _
    refine t_rg @h5 ?_
    refine t_a ?_
    refine W_cond rfl ?_ ?_
    · intro h; simp at h
    intro _
    refine t_rg @h5 ?_
    refine t_a ?_
    refine W_cond rfl ?_ ?_
    · intro h; simp at h
    intro _
    refine t_rg @h5 ?_
    refine t_a ?_
    refine W_cond rfl ?_ ?_
    · intro h; simp at h
    intro _
    refine t_a ?_
    first | refine W_reg [] fun K hK => ?_ | refine W_regd (by rw [hP]; exact mixed) [] fun K hK => ?_
    refine t_s0 ?_
    refine t_c trivial (ref01_nat_ok) ?_
    refine t_c trivial (ref01_nat_ok) ?_
    refine t_c trivial (ref01_two_ok (Ty.mk 1 []) (Ty.mk 1 [])) ?_
    refine t_e ?_
    clear hK K
    repeat (first | refine W_seq ?_ | refine W_skip ?_ | refine W_block ?_ | refine W_inBlock ?_ | refine W_label ?_ | refine W_exit rfl ?_)
    first | refine W_retR hP hf hfn _ ([(b, deck l q)]) (by first | (simp [go_sem, hP, hgl, hn, plainD, hd, h5]; done) | (simp [go_sem, hP, hgl, hn, plainD, hd, h5]; rfl)) (by simp [go_sem, hP, hgl, hn, plainD, hd, h5]) (by simp) ?_ hR.2 | refine W_endR hP hf hfn _ ([(b, deck l q)]) (by first | (simp [go_sem, hP, hgl, hn, plainD, hd, h5]; done) | (simp [go_sem, hP, hgl, hn, plainD, hd, h5]; rfl)) (by simp [go_sem, hP, hgl, hn, plainD, hd, h5]) (by simp) ?_ hR.2
    rw [hR.1]
    refine ⟨?_, by simp [plainD, hd, h5]⟩
    try simp [plainD, hd, h5]
    try all_goals (simp [Ty.dv, Ty.cells_eq, Ty.kind_mk, Ty.args_mk, Tm.dv, Tm.cells_eq, Tm.kind_mk, Tm.index_mk, Tm.type_mk, Tm.args_mk, Val.dv, Val.cells_eq, Val.kind_mk, Val.num_mk, Val.list_mk, Val.args_mk, ints])

/-- n numbers below 4 -/
def numsD (l : List Int) (p : Nat) : Nat → List Int × Nat
  | 0 => ([], p)
  | n + 1 => ((nextD l p 4).1 :: (numsD l (nextD l p 4).2 n).1, (numsD l (nextD l p 4).2 n).2)

def mkVal (l : List Int) : Ty → Nat → Val × Nat
  | .mk k ts, p =>
    if k = 1 then (Val.mk 1 (nextD l p 5).1 [] [], (nextD l p 5).2)
    else if k = 2 then (Val.mk 2 0 (numsD l (nextD l p 4).2 (nextD l p 4).1.toNat).1 [], (numsD l (nextD l p 4).2 (nextD l p 4).1.toNat).2)
    else if k = 3 then (Val.mk 3 0 [] (mkVals ts p).1, (mkVals ts p).2)
    else (Val.mk 4 0 [] [], p)
where
  mkVals : List Ty → Nat → List Val × Nat
    | [], p => ([], p)
    | t :: r, p => ((mkVal l t p).1 :: (mkVals r (mkVal l t p).2).1, (mkVals r (mkVal l t p).2).2)

/-- the types of plain values: a pair has two parts -/
def Ty.plain : Ty → Prop
  | .mk k ts => (k = 3 → ts.length = 2) ∧ plains ts
where
  plains : List Ty → Prop
    | [] => True
    | t :: r => t.plain ∧ plains r

theorem Ty.plains_iff (ts : List Ty) : Ty.plain.plains ts ↔ ∀ a ∈ ts, a.plain := by
  induction ts with
  | nil => simp [Ty.plain.plains]
  | cons a r ih => simp [Ty.plain.plains, ih]
theorem Ty.plain_eq (t : Ty) : t.plain ↔ (t.kind = 3 → t.args.length = 2) ∧ ∀ a ∈ t.args, a.plain := by
  cases t with
  | mk k ts => simp only [Ty.plain, Ty.plains_iff, Ty.kind, Ty.args]
theorem mkVal_eq (l : List Int) (t : Ty) (p : Nat) : mkVal l t p =
    if t.kind = 1 then (Val.mk 1 (nextD l p 5).1 [] [], (nextD l p 5).2)
    else if t.kind = 2 then (Val.mk 2 0 (numsD l (nextD l p 4).2 (nextD l p 4).1.toNat).1 [], (numsD l (nextD l p 4).2 (nextD l p 4).1.toNat).2)
    else if t.kind = 3 then (Val.mk 3 0 [] (mkVal.mkVals l t.args p).1, (mkVal.mkVals l t.args p).2)
    else (Val.mk 4 0 [] [], p) := by
  cases t; rfl
theorem numsD_le {l : List Int} : ∀ {n p : Nat}, p ≤ l.length → (numsD l p n).2 ≤ l.length
  | 0, _, h => h
  | n + 1, _, h => numsD_le (n := n) (nextD_le h)
theorem mkVal_le {l : List Int} (t : Ty) : ∀ {p : Nat}, p ≤ l.length → (mkVal l t p).2 ≤ l.length := by
  induction t using Ty.ind with
  | h t ih =>
  intro p hp
  have hs : ∀ ts : List Ty, (∀ a ∈ ts, a ∈ t.args) → ∀ p, p ≤ l.length → (mkVal.mkVals l ts p).2 ≤ l.length := by
    intro ts
    induction ts with
    | nil => intro _ p hp; exact hp
    | cons a r ihr => intro h p hp; exact ihr (fun b hb => h b (List.mem_cons_of_mem _ hb)) _ (ih a (h a (by simp)) hp)
  rw [mkVal_eq]
  split
  · exact nextD_le hp
  · split
    · exact numsD_le (nextD_le hp)
    · split
      · exact hs t.args (fun _ h => h) p hp
      · exact hp

theorem mkval_ok (t : Ty) (b : Nat) (l : List Int) (p : Nat) (hl : l.length ≤ 500) (hp : p ≤ l.length) (ht : t.plain) :
    Con1 Tryd.prog gl 13 [ptr b, t.dv] [(b, deck l p)] (mkVal l t p).1.dv [(b, deck l (mkVal l t p).2)] := by
  induction t using Ty.ind generalizing p with
  | h t ih =>
  refine t_in Tryd.func13 ?_
  intro X hP hgl hf hfn hn hR hids hfit
  have hp5 := nextD_le (n := 5) hp
  have hp4 := nextD_le (n := 4) hp
  rw [mkVal_eq] at hR
  refine t_rg0 ?_
  refine t_rg0 ?_
  by_cases h1 : t.kind = 1
  · rw [if_pos h1] at hR
    refine t_rg @h1 ?_
    refine t_a ?_
    refine W_cond rfl ?_ ?_
    rotate_left
    · intro h; simp at h
    intro _
    refine t_a ?_
    first | refine W_reg [] fun K hK => ?_ | refine W_regd (by rw [hP]; exact mixed) [] fun K hK => ?_
    refine t_s0 ?_
    refine t_c trivial (next_ok b l p 5 (by decide) (by omega)) ?_
    refine t_e ?_
    clear hK K
    repeat (first | refine W_seq ?_ | refine W_skip ?_ | refine W_block ?_ | refine W_inBlock ?_ | refine W_label ?_ | refine W_exit rfl ?_)
    first | refine W_retR hP hf hfn _ ([(b, deck l (nextD l p 5).2)]) (by first | (simp [go_sem, hP, hgl, hn]; done) | (simp [go_sem, hP, hgl, hn]; rfl)) (by simp [go_sem, hP, hgl, hn]) (by simp) ?_ hR.2 | refine W_endR hP hf hfn _ ([(b, deck l (nextD l p 5).2)]) (by first | (simp [go_sem, hP, hgl, hn]; done) | (simp [go_sem, hP, hgl, hn]; rfl)) (by simp [go_sem, hP, hgl, hn]) (by simp) ?_ hR.2
    rw [hR.1]
    refine ⟨?_, by simp⟩
    try simp
    try all_goals (simp [Ty.dv, Ty.cells_eq, Ty.kind_mk, Ty.args_mk, Tm.dv, Tm.cells_eq, Tm.kind_mk, Tm.index_mk, Tm.type_mk, Tm.args_mk, Val.dv, Val.cells_eq, Val.kind_mk, Val.num_mk, Val.list_mk, Val.args_mk, ints])
  rw [if_neg h1] at hR
  by_cases h2 : t.kind = 2
  · rw [if_pos h2] at hR
    have hkb := nextD_bd (l := l) (p := p) (n := 4) (by decide)
    obtain ⟨r0, hr0⟩ : ∃ r0 : Nat, (nextD l p 4).1 = r0 := ⟨(nextD l p 4).1.toNat, by omega⟩
    rw [hr0, Int.toNat_natCast] at hR
    rw [hr0] at hkb
    refine t_rg @h2 ?_
    refine t_a ?_
    refine W_cond rfl ?_ ?_
    · intro h; simp at h
    intro _
    refine t_rg @h2 ?_
    refine t_a ?_
    refine W_cond rfl ?_ ?_
    rotate_left
    · intro h; simp at h
    intro _
    refine t_rg0 ?_
    refine t_a ?_
    first | refine W_reg [] fun K hK => ?_ | refine W_regd (by rw [hP]; exact mixed) [] fun K hK => ?_
    refine t_s0 ?_
    refine t_c trivial (next_ok b l p 4 (by decide) (by omega)) ?_
    refine t_e ?_
    clear hK K
    refine t_a ?_
    refine W_sub [(1005, 0)] (by simp [go_sem]) (by simp [go_sem, hr0, ints_nil]) (by simp [go_sem]) (W_rounds (fun x : List Int × Nat × Nat => x.2.1 ≤ l.length ∧ (x.1 ++ (numsD l x.2.1 x.2.2).1, (numsD l x.2.1 x.2.2).2) = numsD l (nextD l p 4).2 r0 ∧ x.1.length + x.2.2 ≤ 4)
      (fun x => [(.slot 6, .one (.v (dint x.2.2))), (.heap b, .row [.v (.sl (ints l)), .v (dint x.2.1)]), (.loc 5, .row [.v (dint 2), .v (dint 0), .own 1005 (ints x.1), .own 0 []]), (.tok 1005, .tk 1 x.1.length), (.slot 5, .one (.loc 5 0)), (.loc 4, .row [.v (dint 0), .v (dint 0), .own 0 [], .own 0 []]), (.slot 4, .one (.loc 4 0)), (.slot 0, .one (.v (ptr b)))])
      (fun x => x.2.2) ([], (nextD l p 4).2, r0) ⟨hp4, by simp, by simp; omega⟩ ?_)
    rintro ⟨acc, q, r⟩ ⟨i1, i2, i3⟩ ihr
    simp only at i1 i2 i3
    cases r with
    | zero =>
      simp only [numsD, List.append_nil] at i2
      refine t_rg0 ?_
      refine t_a ?_
      refine W_cond rfl ?_ ?_
      · intro h; simp at h
      intro _
      refine t_rg0 ?_
      repeat (first | refine W_seq ?_ | refine W_skip ?_ | refine W_block ?_ | refine W_inBlock ?_ | refine W_label ?_ | refine W_exit rfl ?_)
      first | refine W_retR hP hf hfn _ ([(b, deck l q)]) (by first | (simp [go_sem, hP, hgl, hn, ← i2]; done) | (simp [go_sem, hP, hgl, hn, ← i2]; rfl)) (by simp [go_sem, hP, hgl, hn, ← i2]) (by simp) ?_ hR.2 | refine W_endR hP hf hfn _ ([(b, deck l q)]) (by first | (simp [go_sem, hP, hgl, hn, ← i2]; done) | (simp [go_sem, hP, hgl, hn, ← i2]; rfl)) (by simp [go_sem, hP, hgl, hn, ← i2]) (by simp) ?_ hR.2
      rw [hR.1]
      refine ⟨?_, by simp [← i2]⟩
      try simp [← i2]
      try all_goals (simp [Ty.dv, Ty.cells_eq, Ty.kind_mk, Ty.args_mk, Tm.dv, Tm.cells_eq, Tm.kind_mk, Tm.index_mk, Tm.type_mk, Tm.args_mk, Val.dv, Val.cells_eq, Val.kind_mk, Val.num_mk, Val.list_mk, Val.args_mk, ints])
    | succ r =>
      have hq := nextD_le (n := 4) i1
      refine t_rg0 ?_
      refine t_yes ?_
      refine t_a ?_
      first | refine W_reg [] fun K hK => ?_ | refine W_regd (by rw [hP]; exact mixed) [] fun K hK => ?_
      refine t_s0 ?_
      refine t_c trivial (next_ok b l q 4 (by decide) (by omega)) ?_
      refine t_e ?_
      clear hK K
      refine t_rg0 ?_
      refine t_b ?_
      refine t_sub [(1005, 28)] (j2 @ints_cons @ints_nil) (ihr (acc ++ [(nextD l q 4).1], (nextD l q 4).2, r) ⟨hq, by rw [← i2]; simp [numsD], by simp; omega⟩ (by simp))
  rw [if_neg h2] at hR
  by_cases h3 : t.kind = 3
  · rw [if_pos h3] at hR
    obtain ⟨ht1, ht2⟩ := (Ty.plain_eq t).1 ht
    obtain ⟨x, y, hxy⟩ : ∃ x y, t.args = [x, y] := by
      have := ht1 h3
      match h : t.args, this with
      | [x, y], _ => exact ⟨x, y, rfl⟩
    have hpx := mkVal_le (l := l) x hp
    refine t_rg @h3 ?_
    refine t_no ?_
    refine t_rg @h3 ?_
    refine t_no ?_
    refine t_rg @h3 ?_
    refine t_yes ?_
    refine t_a ?_
    first | refine W_reg [] fun K hK => ?_ | refine W_regd (by rw [hP]; exact mixed) [] fun K hK => ?_
    refine t_s @hxy ?_
    refine t_c @hxy (ih x (by simp [hxy]) p hp (ht2 x (by simp [hxy]))) ?_
    refine t_c @hxy (ih y (by simp [hxy]) _ hpx (ht2 y (by simp [hxy]))) ?_
    refine t_e ?_
    clear hK K
    repeat (first | refine W_seq ?_ | refine W_skip ?_ | refine W_block ?_ | refine W_inBlock ?_ | refine W_label ?_ | refine W_exit rfl ?_)
    first | refine W_retR hP hf hfn _ ([(b, deck l (mkVal l y (mkVal l x p).2).2)]) (by first | (simp [go_sem, hP, hgl, hn, hxy, mkVal.mkVals]; done) | (simp [go_sem, hP, hgl, hn, hxy, mkVal.mkVals]; rfl)) (by simp [go_sem, hP, hgl, hn, hxy, mkVal.mkVals]) (by simp) ?_ hR.2 | refine W_endR hP hf hfn _ ([(b, deck l (mkVal l y (mkVal l x p).2).2)]) (by first | (simp [go_sem, hP, hgl, hn, hxy, mkVal.mkVals]; done) | (simp [go_sem, hP, hgl, hn, hxy, mkVal.mkVals]; rfl)) (by simp [go_sem, hP, hgl, hn, hxy, mkVal.mkVals]) (by simp) ?_ hR.2
    rw [hR.1]
    refine ⟨?_, by simp [hxy, mkVal.mkVals]⟩
    try simp [hxy, mkVal.mkVals]
    try all_goals (simp [Ty.dv, Ty.cells_eq, Ty.kind_mk, Ty.args_mk, Tm.dv, Tm.cells_eq, Tm.kind_mk, Tm.index_mk, Tm.type_mk, Tm.args_mk, Val.dv, Val.cells_eq, Val.kind_mk, Val.num_mk, Val.list_mk, Val.args_mk, ints])
  rw [if_neg h3] at hR
  refine t_rg @h1 ?_
  refine t_no ?_
  refine t_rg @h2 ?_
  refine t_no ?_
  refine t_rg @h3 ?_
  refine t_no ?_
  refine t_rg0 ?_
  repeat (first | refine W_seq ?_ | refine W_skip ?_ | refine W_block ?_ | refine W_inBlock ?_ | refine W_label ?_ | refine W_exit rfl ?_)
  first | refine W_retR hP hf hfn _ ([(b, deck l p)]) (by first | (simp [go_sem, hP, hgl, hn]; done) | (simp [go_sem, hP, hgl, hn]; rfl)) (by simp [go_sem, hP, hgl, hn]) (by simp) ?_ hR.2 | refine W_endR hP hf hfn _ ([(b, deck l p)]) (by first | (simp [go_sem, hP, hgl, hn]; done) | (simp [go_sem, hP, hgl, hn]; rfl)) (by simp [go_sem, hP, hgl, hn]) (by simp) ?_ hR.2
  rw [hR.1]
  refine ⟨?_, by simp⟩
  try simp
  try all_goals (simp [Ty.dv, Ty.cells_eq, Ty.kind_mk, Ty.args_mk, Tm.dv, Tm.cells_eq, Tm.kind_mk, Tm.index_mk, Tm.type_mk, Tm.args_mk, Val.dv, Val.cells_eq, Val.kind_mk, Val.num_mk, Val.list_mk, Val.args_mk, ints])
end Go.Proofs.YtgfjcbofbbcnmaaDoor.Lift

namespace Go.Proofs.YtgfjcbofbbcnmaaDoor.Lift
set_option linter.unusedSimpArgs false
set_option linter.unusedVariables false
set_option linter.unnecessarySimpa false
open Go
variable {gl : Globs}

theorem Val.fit_args {t : Val} (h : t.dv.fit) : t.args.length ≤ 2147483648 := ((Val.fit_eq t).1 ((Val.dv_fit t).1 h)).2.2.2.1
theorem Val.fit_list {t : Val} (h : t.dv.fit) : t.list.length ≤ 2147483648 := ((Val.fit_eq t).1 ((Val.dv_fit t).1 h)).2.2.1.1

def numTm : Nat → Tm
  | 0 => Tm.mk 4 0 (Ty.mk 0 []) []
  | n + 1 => Tm.mk 5 0 (Ty.mk 0 []) [numTm n]

def sizeI (n : Int) : Int := min n 4096 + 1
/-- the number of nodes of a value, and whether all have a form -/
def Val.okB (v : Val) : Bool :=
  if v.kind = 1 then decide (0 ≤ v.num) && decide (v.list.length = 0) && decide (v.args.length = 0)
  else if v.kind = 2 then decide (v.num = 0) && !v.list.any (fun n => decide (n < 0)) && decide (v.args.length = 0)
  else if v.kind = 3 then decide (v.num = 0) && decide (v.list.length = 0) && decide (v.args.length = 2)
  else if v.kind = 4 then decide (v.num = 0) && decide (v.list.length = 0) && decide (v.args.length = 0)
  else false

theorem negative_ok (n : Int) : Con1 Tryd.prog gl 90 [dint n] [] (dbool (decide (n < 0))) [] := by
  refine t_in Tryd.func90 ?_
  intro X hP hgl hf hfn hn hR hids hfit
  refine t_rg0 ?_
  refine t_rg0 ?_
  refine t_r ?_
  simp [go_sem, hP, hgl, hn] <;> (try omega)

abbrev fnv (f : Nat) : DV := .prim (.func (.func f) #[] #[])

/-- the first place of a negative number -/
def idxNeg (l : List Int) : Int := match l.findIdx? (fun n => decide (n < 0)) with
  | some k => k
  | none => -1

theorem indexNeg_ok (l : List Int) : Con1 Tryd.prog gl 98 [.sl (ints l), fnv 90] [] (dint (idxNeg l)) [] := by
  refine t_in Tryd.func98 ?_
  intro X hP hgl hf hfn hn hR hids hfit
  have hlen : l.length ≤ 2147483648 := by simpa [ints] using sl_len (hfit (.sl (ints l)) (by simp))
  refine t_rg0 ?_
  refine t_rg0 ?_
  refine t_a ?_
  refine t_sub [] trivial (W_upto (l.length) (fun i => ∀ (j : Nat) (x : Int), j < i → l[j]? = some x → 0 ≤ x) (fun i => [(.slot 8, .one (.v (dint i))), (.slot 7, .one (.v (dint l.length))), (.slot 6, .one (.v (.sl (ints l)))), (.slot 0, .one (.v (.sl (ints l)))), (.slot 1, .one (.v (fnv 90)))]) (by intro j x h; omega) ?_ ?_)
  · intro i hlt hI hnext
    obtain ⟨x, hx⟩ : ∃ x, l[i]? = some x := ⟨_, List.getElem?_eq_getElem hlt⟩
    have hg := ints_get hx
    refine t_rg0 ?_
    refine t_yes ?_
    refine t_rg0 ?_
    refine t_a ?_
    first | refine W_reg [] fun K hK => ?_ | refine W_regd (by rw [hP]; exact mixed) [] fun K hK => ?_
    refine t_s @hg ?_
    repeat (refine ⟨by omega, ?_⟩)
    refine vcK_callF hP hgl (negative_ok x) (by simp [go_sem]) (by simp [go_sem, hP, hgl, hn]) rfl (by simp [go_sem]) (by simp) (by rw [hn]; exact Nat.le_of_ble_eq_true rfl) ?_
    simp [go_sem, hP, hgl, hn]
    refine t_e ?_
    clear hK K
    by_cases hneg : x < 0
    · refine t_a ?_
      refine W_cond rfl ?_ ?_
      rotate_left
      · intro h; simp [hneg] at h
      intro _
      refine t_rg0 ?_
      refine t_r ?_
      simp [go_sem, hP, hgl, hn] <;> (try omega)
      unfold idxNeg
      have : l.findIdx? (fun n => decide (n < 0)) = some i := by
        rw [List.findIdx?_eq_some_iff_getElem]
        obtain ⟨h1, h2⟩ := List.getElem?_eq_some_iff.1 hx
        refine ⟨h1, by simp [h2, hneg], fun j hj => ?_⟩
        have := hI j l[j] hj (List.getElem?_eq_getElem (by omega))
        simp; omega
      rw [this]
    · refine t_a ?_
      refine W_cond rfl ?_ ?_
      · intro h; simp [hneg] at h
      intro _
      refine t_rg0 ?_
      refine t_b ?_
      refine t_sub [] trivial (hnext ?_)
      intro j y hj hy
      by_cases hji : j = i
      · subst hji; rw [hx] at hy; cases hy; omega
      · exact hI j y (by omega) hy
  · intro hI
    refine t_rg0 ?_
    refine t_no ?_
    refine t_rg0 ?_
    refine t_r ?_
    simp [go_sem, hP, hgl, hn] <;> (try omega)
    unfold idxNeg
    have : l.findIdx? (fun n => decide (n < 0)) = none := by
      rw [List.findIdx?_eq_none_iff]
      intro x hx
      obtain ⟨i, hi, rfl⟩ := List.mem_iff_getElem.1 hx
      have := hI i l[i] hi (List.getElem?_eq_getElem hi)
      simp; omega
    rw [this]

theorem contains_ok (l : List Int) : Con1 Tryd.prog gl 91 [.sl (ints l), fnv 90] [] (dbool (l.any (fun n => decide (n < 0)))) [] := by
  refine t_in Tryd.func91 ?_
  intro X hP hgl hf hfn hn hR hids hfit
  refine t_rg0 ?_
  refine t_a ?_
  first | refine W_reg [] fun K hK => ?_ | refine W_regd (by rw [hP]; exact mixed) [] fun K hK => ?_
  refine t_s0 ?_
  refine t_c trivial (indexNeg_ok l) ?_
  refine t_e ?_
  clear hK K
  refine t_r ?_
  simp [go_sem, hP, hgl, hn] <;> (try omega)
  unfold idxNeg
  cases h : l.findIdx? (fun n => decide (n < 0)) with
  | none =>
    rw [List.findIdx?_eq_none_iff] at h
    have : l.any (fun n => decide (n < 0)) = false := by
      rw [List.any_eq_false]
      intro x hx
      simp [h x hx]
    simp only [this]
    decide
  | some k =>
    obtain ⟨h1, h2, -⟩ := List.findIdx?_eq_some_iff_getElem.1 h
    have : l.any (fun n => decide (n < 0)) = true := by
      rw [List.any_eq_true]
      exact ⟨_, List.getElem_mem h1, h2⟩
    simp [this]

end Go.Proofs.YtgfjcbofbbcnmaaDoor.Lift

namespace Go.Proofs.YtgfjcbofbbcnmaaDoor.Lift
set_option linter.unusedSimpArgs false
set_option linter.unusedVariables false
set_option linter.unnecessarySimpa false
open Go
variable {gl : Globs}

def Val.nodesN : Val → Int × Bool
  | .mk k n l a => nodesL a (1, Val.okB (.mk k n l a))
where
  nodesL : List Val → Int × Bool → Int × Bool
    | [], p => p
    | a :: r, p => if p.2 then nodesL r (p.1 + (Val.nodesN a).1, (Val.nodesN a).2) else p
theorem Val.nodesN_eq (v : Val) : v.nodesN = nodesN.nodesL v.args (1, v.okB) := by cases v; simp [nodesN, args]
theorem Val.nodesL_no (l : List Val) (n : Int) : nodesN.nodesL l (n, false) = (n, false) := by cases l <;> simp [nodesN.nodesL]
theorem Val.nodesL_append (l m : List Val) (p : Int × Bool) : nodesN.nodesL (l ++ m) p = nodesN.nodesL m (nodesN.nodesL l p) := by
  induction l generalizing p with
  | nil => simp [nodesN.nodesL]
  | cons a r ih =>
    obtain ⟨n, ok⟩ := p
    cases ok with
    | true => simp [nodesN.nodesL, ih]
    | false => simp [nodesL_no]

/-- the number of nodes of a value -/
def Val.count : Val → Nat
  | .mk _ _ _ a => 1 + counts a
where
  counts : List Val → Nat
    | [] => 0
    | a :: r => a.count + counts r
theorem Val.count_eq (t : Val) : t.count = 1 + Val.count.counts t.args := by cases t; simp [count, args]
theorem Val.counts_append (l m : List Val) : Val.count.counts (l ++ m) = Val.count.counts l + Val.count.counts m := by
  induction l with
  | nil => simp [Val.count.counts]
  | cons a r ih => simp [Val.count.counts, ih]; omega

theorem Val.nodesL_le {v : Val} (ih : ∀ a ∈ v.args, 0 ≤ a.nodesN.1 ∧ a.nodesN.1 ≤ a.count) (l : List Val) : (∀ a ∈ l, a ∈ v.args) → ∀ (n : Int) (ok : Bool), n ≤ (nodesN.nodesL l (n, ok)).1 ∧ (nodesN.nodesL l (n, ok)).1 ≤ n + Val.count.counts l := by
  induction l with
  | nil => intro _ n ok; simp [nodesN.nodesL, Val.count.counts]
  | cons a r ihr =>
    intro h n ok
    have h1 := ih a (h a (by simp))
    cases ok with
    | false => simp [nodesL_no, Val.count.counts]; omega
    | true =>
      have h2 := ihr (fun b hb => h b (List.mem_cons_of_mem _ hb)) (n + a.nodesN.1) a.nodesN.2
      simp only [nodesN.nodesL, if_true, Val.count.counts]
      omega
theorem Val.nodes_le (v : Val) : 0 ≤ v.nodesN.1 ∧ v.nodesN.1 ≤ v.count := by
  induction v using Val.ind with
  | h v ih =>
  have := Val.nodesL_le ih v.args (fun _ h => h) 1 v.okB
  rw [nodesN_eq, count_eq]
  omega

theorem nodes_ok (v : Val) (hc : v.count ≤ 2147483648) : Con1 Tryd.prog gl 77 [v.dv] [] (.tup [dint v.nodesN.1, dbool v.nodesN.2]) [] := by
  induction v using Val.ind with
  | h v ih =>
  refine t_in Tryd.func77 ?_
  intro X hP hgl hf hfn hn hR hids hfit
  have hl1 := Val.fit_args (hfit v.dv (by simp))
  have hl2 := Val.fit_list (hfit v.dv (by simp))
  rw [Val.count_eq] at hc
  refine t_rg0 ?_
  refine t_rg0 ?_
  refine t_rg0 ?_
  refine t_rg0 ?_
  repeat (first | refine W_seq ?_ | refine W_skip ?_ | refine W_inBlock ?_ | refine W_label ?_)
  refine W_cut [(.slot 5, .one (.v (dbool v.okB))), (.loc 1, .row ([.v (dint v.kind), .v (dint v.num), .v (.sl (ints v.list)), .v (.sl (v.args.map Val.cells))])), (.slot 1, .one (.loc 1 0))] ?_ ?_
  · intro hrest
    by_cases h1 : v.kind = 1
    · refine t_rg @h1 ?_
      refine t_yes ?_
      by_cases q1 : 0 ≤ v.num
      · by_cases q2 : v.list.length = 0
        · refine t_rg (j2 @h1 (j2 @q1 @q2)) ?_
          repeat (first | refine W_inBlock ?_ | refine W_skip ?_ | refine W_label ?_ | refine W_exit rfl ?_)
          refine W_sub [] (by simp [go_sem]) (by simp [go_sem, Val.okB, h1, q1, q2] <;> omega) (by simp [go_sem]) hrest
        · refine t_rg (j2 @h1 (j2 @q1 @q2)) ?_
          repeat (first | refine W_inBlock ?_ | refine W_skip ?_ | refine W_label ?_ | refine W_exit rfl ?_)
          refine W_sub [] (by simp [go_sem]) (by simp [go_sem, Val.okB, h1, q1, q2] <;> omega) (by simp [go_sem]) hrest
      · refine t_rg (j2 @h1 @q1) ?_
        repeat (first | refine W_inBlock ?_ | refine W_skip ?_ | refine W_label ?_ | refine W_exit rfl ?_)
        refine W_sub [] (by simp [go_sem]) (by simp [go_sem, Val.okB, h1, q1] <;> omega) (by simp [go_sem]) hrest
    by_cases h2 : v.kind = 2
    · refine t_rg @h2 ?_
      refine t_no ?_
      refine t_rg @h2 ?_
      refine t_yes ?_
      by_cases q1 : v.num = 0
      · refine t_a ?_
        first | refine W_reg [] fun K hK => ?_ | refine W_regd (by rw [hP]; exact mixed) [] fun K hK => ?_
        refine t_s (j2 @h2 @q1) ?_
        refine t_c trivial (contains_ok v.list) ?_
        by_cases q2 : v.list.any (fun n => decide (n < 0)) = true
        · simp [go_sem, hP, hn, q2]
          refine t_e ?_
          clear hK K
          repeat (first | refine W_inBlock ?_ | refine W_skip ?_ | refine W_label ?_ | refine W_exit rfl ?_)
          refine W_sub [] (by simp [go_sem]) (by simp [go_sem, Val.okB, h2, q1, q2] <;> omega) (by simp [go_sem]) hrest
        · simp only [Bool.not_eq_true] at q2
          simp [go_sem, hP, hn, q2]
          refine t_e ?_
          clear hK K
          repeat (first | refine W_inBlock ?_ | refine W_skip ?_ | refine W_label ?_ | refine W_exit rfl ?_)
          refine W_sub [] (by simp [go_sem]) (by simp [go_sem, Val.okB, h2, q1, q2] <;> omega) (by simp [go_sem]) hrest
      · refine t_rg (j2 @h2 @q1) ?_
        repeat (first | refine W_inBlock ?_ | refine W_skip ?_ | refine W_label ?_ | refine W_exit rfl ?_)
        refine W_sub [] (by simp [go_sem]) (by simp [go_sem, Val.okB, h2, q1] <;> omega) (by simp [go_sem]) hrest
    by_cases h3 : v.kind = 3
    · refine t_rg @h3 ?_
      refine t_no ?_
      refine t_rg @h3 ?_
      refine t_no ?_
      refine t_rg @h3 ?_
      refine t_yes ?_
      by_cases q1 : v.num = 0
      · by_cases q2 : v.list.length = 0
        · refine t_rg (j2 @h3 (j2 @q1 @q2)) ?_
          repeat (first | refine W_inBlock ?_ | refine W_skip ?_ | refine W_label ?_ | refine W_exit rfl ?_)
          refine W_sub [] (by simp [go_sem]) (by simp [go_sem, Val.okB, h3, q1, q2] <;> omega) (by simp [go_sem]) hrest
        · refine t_rg (j2 @h3 (j2 @q1 @q2)) ?_
          repeat (first | refine W_inBlock ?_ | refine W_skip ?_ | refine W_label ?_ | refine W_exit rfl ?_)
          refine W_sub [] (by simp [go_sem]) (by simp [go_sem, Val.okB, h3, q1, q2] <;> omega) (by simp [go_sem]) hrest
      · refine t_rg (j2 @h3 @q1) ?_
        repeat (first | refine W_inBlock ?_ | refine W_skip ?_ | refine W_label ?_ | refine W_exit rfl ?_)
        refine W_sub [] (by simp [go_sem]) (by simp [go_sem, Val.okB, h3, q1] <;> omega) (by simp [go_sem]) hrest
    by_cases h4 : v.kind = 4
    · refine t_rg @h4 ?_
      refine t_no ?_
      refine t_rg @h4 ?_
      refine t_no ?_
      refine t_rg @h4 ?_
      refine t_no ?_
      refine t_rg @h4 ?_
      refine t_yes ?_
      by_cases q1 : v.num = 0
      · by_cases q2 : v.list.length = 0
        · refine t_rg (j2 @h4 (j2 @q1 @q2)) ?_
          repeat (first | refine W_inBlock ?_ | refine W_skip ?_ | refine W_label ?_ | refine W_exit rfl ?_)
          refine W_sub [] (by simp [go_sem]) (by simp [go_sem, Val.okB, h4, q1, q2] <;> omega) (by simp [go_sem]) hrest
        · refine t_rg (j2 @h4 (j2 @q1 @q2)) ?_
          repeat (first | refine W_inBlock ?_ | refine W_skip ?_ | refine W_label ?_ | refine W_exit rfl ?_)
          refine W_sub [] (by simp [go_sem]) (by simp [go_sem, Val.okB, h4, q1, q2] <;> omega) (by simp [go_sem]) hrest
      · refine t_rg (j2 @h4 @q1) ?_
        repeat (first | refine W_inBlock ?_ | refine W_skip ?_ | refine W_label ?_ | refine W_exit rfl ?_)
        refine W_sub [] (by simp [go_sem]) (by simp [go_sem, Val.okB, h4, q1] <;> omega) (by simp [go_sem]) hrest
    refine t_rg @h1 ?_
    refine t_no ?_
    refine t_rg @h2 ?_
    refine t_no ?_
    refine t_rg @h3 ?_
    refine t_no ?_
    refine t_rg @h4 ?_
    refine t_no ?_
    repeat (first | refine W_inBlock ?_ | refine W_skip ?_ | refine W_label ?_ | refine W_exit rfl ?_)
    refine W_sub [] (by simp [go_sem]) (by simp [go_sem, Val.okB, h1, h2, h3, h4] <;> omega) (by simp [go_sem]) hrest
  · refine t_rg0 ?_
    refine t_rg0 ?_
    refine t_a ?_
    refine W_sub [] (by simp [go_sem]) (by simp [go_sem, Val.nodesN.nodesL] <;> omega) (by simp [go_sem]) (W_list (v.args) (fun done rest => [(.slot 84, .one (.v (dint done.length))), (.slot 83, .one (.v (dint v.args.length))), (.slot 82, .one (.v (.sl (v.args.map Val.cells)))), (.slot 6, .one (.v (dint (Val.nodesN.nodesL done (1, v.okB)).1))), (.slot 5, .one (.v (dbool (Val.nodesN.nodesL done (1, v.okB)).2)))]) ?_ ?_)
    · intro done x rest hL hg hnext
      have hlt : done.length < v.args.length := by rw [hL]; simp
      have hcx : Val.count.counts v.args = Val.count.counts done + (x.count + Val.count.counts rest) := by rw [hL, Val.counts_append]; rfl
      have hb := Val.nodesL_le (v := v) (fun a _ => Val.nodes_le a) done (fun a ha => by rw [hL]; simp [ha]) 1 v.okB
      have hx := Val.nodes_le x
      obtain ⟨n, ok, hp⟩ : ∃ n ok, Val.nodesN.nodesL done (1, v.okB) = (n, ok) := ⟨_, _, rfl⟩
      rw [hp] at hb
      simp only [Val.nodesL_append, hp] at hnext ⊢
      refine t_rg0 ?_
      refine t_yes ?_
      refine t_rg @hg ?_
      cases ok with
      | false =>
        refine t_rg0 ?_
        refine t_yes ?_
        refine t_rg0 ?_
        refine t_r ?_
        simp [go_sem, hP, hgl, hn, Val.nodesN_eq, hL, Val.nodesL_append, hp, Val.nodesL_no] <;> (try omega)
      | true =>
        refine t_rg0 ?_
        refine t_no ?_
        refine t_rg0 ?_
        refine t_a ?_
        first | refine W_reg [] fun K hK => ?_ | refine W_regd (by rw [hP]; exact mixed) [] fun K hK => ?_
        refine t_s0 ?_
        refine t_c trivial (ih x (List.mem_of_getElem? hg) (by omega)) ?_
        refine t_e ?_
        clear hK K
        refine t_rg0 ?_
        refine t_rg0 ?_
        repeat (first | refine W_inBlock ?_ | refine W_skip ?_ | refine W_label ?_ | refine W_exit rfl ?_)
        refine W_sub [] (by simp [go_sem]) (by simp [go_sem, Val.nodesN.nodesL] <;> omega) (by simp [go_sem]) hnext
    · refine t_rg0 ?_
      refine t_no ?_
      refine t_rg0 ?_
      refine t_r ?_
      simp [go_sem, hP, hgl, hn, Val.nodesN_eq] <;> (try omega)

theorem check_ok (v : Val) (hc : v.count ≤ 2147483648) : Con1 Tryd.prog gl 64 [v.dv] [] (dint (if v.nodesN.2 = true then if v.nodesN.1 > 64 then 4 else 0 else 2)) [] := by
  refine t_in Tryd.func64 ?_
  intro X hP hgl hf hfn hn hR hids hfit
  refine t_rg0 ?_
  refine t_a ?_
  first | refine W_reg [] fun K hK => ?_ | refine W_regd (by rw [hP]; exact mixed) [] fun K hK => ?_
  refine t_s0 ?_
  refine t_c trivial (nodes_ok v hc) ?_
  refine t_e ?_
  clear hK K
  obtain ⟨n, ok, hp⟩ : ∃ n ok, v.nodesN = (n, ok) := ⟨_, _, rfl⟩
  simp only [hp]
  cases ok with
  | false =>
    refine t_rg0 ?_
    refine t_yes ?_
    refine t_rg0 ?_
    refine t_r ?_
    simp [go_sem, hP, hgl, hn, hp] <;> (try omega)
  | true =>
    refine t_rg0 ?_
    refine t_no ?_
    by_cases h : 64 < n
    · refine t_rg @h ?_
      refine t_yes ?_
      refine t_rg0 ?_
      refine t_r ?_
      simp [go_sem, hP, hgl, hn, hp, h] <;> (try omega)
    · refine t_rg @h ?_
      refine t_no ?_
      refine t_rg0 ?_
      refine t_r ?_
      simp [go_sem, hP, hgl, hn, hp, h] <;> (try omega)
end Go.Proofs.YtgfjcbofbbcnmaaDoor.Lift

namespace Go.Proofs.YtgfjcbofbbcnmaaDoor.Lift
set_option linter.unusedSimpArgs false
set_option linter.unusedVariables false
set_option linter.unnecessarySimpa false
open Go
variable {gl : Globs}

theorem checkterm_ok (har : globOf gl 0 = some arEls) (t : Tm) (ht : t.tys) (hc : t.count ≤ 2147483648) : Con1 Tryd.prog gl 73 [t.dv] [] (.tup [dint (if t.checkN = 0 then t.count else 0 : Nat), dint t.checkN]) [] := by
  refine t_in Tryd.func73 ?_
  intro X hP hgl hf hfn hn hR hids hfit
  refine t_g0 ?_
  by_cases h : t.shape = true
  · refine t_a ?_
    first | refine W_reg [] fun K hK => ?_ | refine W_regd (by rw [hP]; exact mixed) [] fun K hK => ?_
    simp [go_sem, hP, hgl, hn, Tm.nodesR, h]
    repeat (refine ⟨by omega, ?_⟩)
    first | refine vcK_call hP hgl (termnodes_ok har t ht hc) (by simp [go_sem, hP, hgl, hn, Tm.nodesR, h]) rfl (by simp [go_sem]) (by simp) (by rw [hn]; exact Nat.le_of_ble_eq_true rfl) ?_ | refine vcdC_call (fun _ _ => vcd_sound) hP hgl (termnodes_ok har t ht hc) (by simp [go_sem, hP, hgl, hn, Tm.nodesR, h]) rfl (by simp [go_sem]) (by simp) (by rw [hn]; exact Nat.le_of_ble_eq_true rfl) ?_ | refine vcK_callG hP hgl (termnodes_ok har t ht hc) (by simp [go_sem, hP, hgl, hn, Tm.nodesR, h]) rfl (by simp [go_sem]) (by simp) (by rw [hn]; exact Nat.le_of_ble_eq_true rfl) (by simp [go_sem]; rfl) (by rw [hn]; exact Nat.le_of_ble_eq_true rfl) (by simp [go_sem]) ?_ | refine vcdC_callG (fun _ _ => vcd_sound) hP hgl (termnodes_ok har t ht hc) (by simp [go_sem, hP, hgl, hn, Tm.nodesR, h]) rfl (by simp [go_sem]) (by simp) (by rw [hn]; exact Nat.le_of_ble_eq_true rfl) (by simp [go_sem]; rfl) (by rw [hn]; exact Nat.le_of_ble_eq_true rfl) (by simp [go_sem]) ?_
    simp [go_sem, hP, hgl, hn, Tm.nodesR, h]
    refine t_e ?_
    clear hK K
    by_cases h2 : 4096 < t.count
    · refine t_g (j2 @h @h2) ?_
      refine t_r ?_
      simp [go_sem, hP, hgl, hn, Tm.checkN, h, h2] <;> (try omega)
    · refine t_g (j2 @h @h2) ?_
      refine t_r ?_
      simp [go_sem, hP, hgl, hn, Tm.checkN, h, h2] <;> (try omega)
  · refine t_a ?_
    first | refine W_reg [] fun K hK => ?_ | refine W_regd (by rw [hP]; exact mixed) [] fun K hK => ?_
    simp [go_sem, hP, hgl, hn, Tm.nodesR, h]
    repeat (refine ⟨by omega, ?_⟩)
    first | refine vcK_call hP hgl (termnodes_ok har t ht hc) (by simp [go_sem, hP, hgl, hn, Tm.nodesR, h]) rfl (by simp [go_sem]) (by simp) (by rw [hn]; exact Nat.le_of_ble_eq_true rfl) ?_ | refine vcdC_call (fun _ _ => vcd_sound) hP hgl (termnodes_ok har t ht hc) (by simp [go_sem, hP, hgl, hn, Tm.nodesR, h]) rfl (by simp [go_sem]) (by simp) (by rw [hn]; exact Nat.le_of_ble_eq_true rfl) ?_ | refine vcK_callG hP hgl (termnodes_ok har t ht hc) (by simp [go_sem, hP, hgl, hn, Tm.nodesR, h]) rfl (by simp [go_sem]) (by simp) (by rw [hn]; exact Nat.le_of_ble_eq_true rfl) (by simp [go_sem]; rfl) (by rw [hn]; exact Nat.le_of_ble_eq_true rfl) (by simp [go_sem]) ?_ | refine vcdC_callG (fun _ _ => vcd_sound) hP hgl (termnodes_ok har t ht hc) (by simp [go_sem, hP, hgl, hn, Tm.nodesR, h]) rfl (by simp [go_sem]) (by simp) (by rw [hn]; exact Nat.le_of_ble_eq_true rfl) (by simp [go_sem]; rfl) (by rw [hn]; exact Nat.le_of_ble_eq_true rfl) (by simp [go_sem]) ?_
    simp [go_sem, hP, hgl, hn, Tm.nodesR, h]
    refine t_e ?_
    clear hK K
    refine t_g @h ?_
    refine t_r ?_
    simp [go_sem, hP, hgl, hn, Tm.checkN, h] <;> (try omega)

theorem termscheck_ok (har : globOf gl 0 = some arEls) (t : Tm) (ht : t.tys) (hc : t.count ≤ 2147483648) : Con1 Tryd.prog gl 60 [t.dv] [] (dint t.checkN) [] := by
  refine t_in Tryd.func60 ?_
  intro X hP hgl hf hfn hn hR hids hfit
  refine t_g0 ?_
  refine t_c1 trivial (checkterm_ok har t ht hc) ?_
  refine t_g0 ?_
  refine t_r ?_
  simp [go_sem, hP, hgl, hn] <;> (try omega)

/-- the number of which a term is the term: how many Succ, and what stands behind them -/
def Tm.peel : Tm → Nat × Int
  | .mk 5 _ _ [a] => ((a.peel).1 + 1, (a.peel).2)
  | t => (0, t.kind)
theorem Tm.peel_succ (t a : Tm) (h : t.kind = 5) (ha : t.args = [a]) : t.peel = (a.peel.1 + 1, a.peel.2) := by
  cases t with
  | mk k i ty l => simp only [kind, args] at h ha; subst h ha; rw [peel]
def zeroV : Val := Val.mk 0 0 [] []

/-- the numbers of a list's term, and what stands behind them; none where one of them is no number -/
def Tm.readL : Tm → Option (List Int × Int)
  | .mk 8 _ _ [h, r] => if h.peel.2 = 4 then (r.readL).map fun p => ((h.peel.1 : Int) :: p.1, p.2) else none
  | t => some ([], t.kind)
theorem Tm.readL_cons (t h r : Tm) (hk : t.kind = 8) (ha : t.args = [h, r]) : t.readL = if h.peel.2 = 4 then (r.readL).map fun p => ((h.peel.1 : Int) :: p.1, p.2) else none := by
  cases t with
  | mk k i ty l => simp only [kind, args] at hk ha; subst hk ha; rw [readL]
/-- the value of which a term is the term -/
def Tm.readV : Tm → Val × Bool
  | .mk k i ty l =>
    if k = 4 ∨ k = 5 then (Val.mk 1 (Tm.mk k i ty l).peel.1 [] [], decide ((Tm.mk k i ty l).peel.2 = 4))
    else if k = 7 ∨ k = 8 then (match (Tm.mk k i ty l).readL with
      | none => (zeroV, false)
      | some p => (Val.mk 2 0 p.1 [], decide (p.2 = 7)))
    else if k = 13 then (Val.mk 4 0 [] [], true)
    else if k = 10 then (Val.mk 3 0 [] (reads l).1, (reads l).2)
    else (zeroV, false)
where
  reads : List Tm → List Val × Bool
    | [] => ([], true)
    | a :: r => ((a.readV).1 :: (reads r).1, (a.readV).2 && (reads r).2)
theorem Tm.readV_eq (t : Tm) : t.readV = if t.kind = 4 ∨ t.kind = 5 then (Val.mk 1 t.peel.1 [] [], decide (t.peel.2 = 4))
    else if t.kind = 7 ∨ t.kind = 8 then (match t.readL with
      | none => (zeroV, false)
      | some p => (Val.mk 2 0 p.1 [], decide (p.2 = 7)))
    else if t.kind = 13 then (Val.mk 4 0 [] [], true)
    else if t.kind = 10 then (Val.mk 3 0 [] (readV.reads t.args).1, (readV.reads t.args).2)
    else (zeroV, false) := by cases t; rw [readV]; rfl

end Go.Proofs.YtgfjcbofbbcnmaaDoor.Lift

namespace Go.Proofs.YtgfjcbofbbcnmaaDoor.Lift
set_option linter.unusedSimpArgs false
set_option linter.unusedVariables false
set_option linter.unnecessarySimpa false
open Go
variable {gl : Globs}

theorem list_ok : Con1 Tryd.prog gl 78 [] [] (Ty.mk 2 []).dv [] := by
  refine t_in Tryd.func78 ?_
  intro X hP hgl hf hfn hn hR hids hfit
  refine t_g0 ?_
  refine t_r ?_
  simp [go_sem, hP, hgl, hn] <;> (try omega)
  all_goals exact t_f
theorem nat_ok : Con1 Tryd.prog gl 79 [] [] (Ty.mk 1 []).dv [] := by
  refine t_in Tryd.func79 ?_
  intro X hP hgl hf hfn hn hR hids hfit
  refine t_g0 ?_
  refine t_r ?_
  simp [go_sem, hP, hgl, hn] <;> (try omega)
  all_goals exact t_f

/-- the type of a valid value -/
def Val.tyN : Val → Ty
  | .mk k _ _ a => if k = 2 then Ty.mk 2 [] else if k = 4 then Ty.mk 5 [] else if k = 3 then Ty.mk 3 (tys a) else Ty.mk 1 []
where
  tys : List Val → List Ty
    | [] => []
    | a :: r => a.tyN :: tys r
theorem Val.tys_map (l : List Val) : tyN.tys l = l.map Val.tyN := by
  induction l with
  | nil => rfl
  | cons a r ih => simp [tyN.tys, ih]
theorem Val.tyN_eq (v : Val) : v.tyN = if v.kind = 2 then Ty.mk 2 [] else if v.kind = 4 then Ty.mk 5 [] else if v.kind = 3 then Ty.mk 3 (v.args.map Val.tyN) else Ty.mk 1 [] := by
  cases v; rw [tyN, tys_map]; rfl

end Go.Proofs.YtgfjcbofbbcnmaaDoor.Lift

namespace Go.Proofs.YtgfjcbofbbcnmaaDoor.Lift
set_option linter.unusedSimpArgs false
set_option linter.unusedVariables false
set_option linter.unnecessarySimpa false
open Go
variable {gl : Globs}

/-- lengths of a list's numbers, until they are too many -/
def lenL : List Int → Int → Int × Bool
  | [], n => (n, false)
  | x :: r, n => if 4096 < n + (1 + sizeI x) then (n + (1 + sizeI x), true) else lenL r (n + (1 + sizeI x))

def Val.lengthN : Val → Int
  | .mk k n l a =>
    if k = 1 then lengths a (sizeI n)
    else if k = 2 then (if (lenL l 1).2 = true then (lenL l 1).1 else lengths a (lenL l 1).1)
    else lengths a 1
where
  lengths : List Val → Int → Int
    | [], n => n
    | a :: r, n => lengths r (n + a.lengthN)
theorem Val.lengthN_eq (v : Val) : v.lengthN = if v.kind = 1 then lengthN.lengths v.args (sizeI v.num)
    else if v.kind = 2 then (if (lenL v.list 1).2 = true then (lenL v.list 1).1 else lengthN.lengths v.args (lenL v.list 1).1)
    else lengthN.lengths v.args 1 := by cases v; rw [lengthN]; rfl
/-- no negative numbers -/
def Val.pos (v : Val) : Prop := 0 ≤ v.num ∧ ∀ n ∈ v.list, (0 : Int) ≤ n
def Val.allPos : Val → Prop
  | .mk k n l a => Val.pos (.mk k n l a) ∧ poss a
where
  poss : List Val → Prop
    | [] => True
    | a :: r => a.allPos ∧ poss r
theorem Val.poss_iff (l : List Val) : allPos.poss l ↔ ∀ a ∈ l, a.allPos := by
  induction l with
  | nil => simp [allPos.poss]
  | cons a r ih => simp [allPos.poss, ih]
theorem Val.allPos_eq (v : Val) : v.allPos ↔ v.pos ∧ ∀ a ∈ v.args, a.allPos := by
  cases v; simp only [allPos, poss_iff, args]

theorem sizeI_bd {n : Int} (h : 0 ≤ n) : 1 ≤ sizeI n ∧ sizeI n ≤ 4097 := by unfold sizeI; omega

theorem lenL_bd : ∀ (l : List Int) (n : Int), (∀ x ∈ l, 0 ≤ x) → n ≤ 4096 → n ≤ (lenL l n).1 ∧ (lenL l n).1 ≤ 8194
  | [], n, _, h => by simp [lenL]; omega
  | x :: r, n, hp, h => by
    have hx := sizeI_bd (hp x (by simp))
    unfold lenL
    split
    · simp only; omega
    · rename_i hle
      have := lenL_bd r (n + (1 + sizeI x)) (fun y hy => hp y (by simp [hy])) (by omega)
      omega

theorem Val.lengths_le {v : Val} (ih : ∀ a ∈ v.args, 0 ≤ a.lengthN ∧ a.lengthN ≤ 10000 * a.count) (l : List Val) : (∀ a ∈ l, a ∈ v.args) → ∀ n : Int, n ≤ lengthN.lengths l n ∧ lengthN.lengths l n ≤ n + 10000 * Val.count.counts l := by
  induction l with
  | nil => intro _ n; simp [lengthN.lengths, Val.count.counts]
  | cons a r ihr =>
    intro h n
    have h1 := ih a (h a (by simp))
    have h2 := ihr (fun b hb => h b (List.mem_cons_of_mem _ hb)) (n + a.lengthN)
    simp only [lengthN.lengths, Val.count.counts]
    omega
theorem Val.length_le (v : Val) (hp : v.allPos) : 0 ≤ v.lengthN ∧ v.lengthN ≤ 10000 * v.count := by
  induction v using Val.ind with
  | h v ih =>
  obtain ⟨⟨p1, p2⟩, p3⟩ := (Val.allPos_eq v).1 hp
  have key := Val.lengths_le (fun a ha => ih a ha (p3 a ha)) v.args (fun _ h => h)
  have h1 := sizeI_bd p1
  have h2 := lenL_bd v.list 1 p2 (by decide)
  rw [lengthN_eq, count_eq]
  have k1 := key (sizeI v.num)
  have k2 := key (lenL v.list 1).1
  have k3 := key 1
  split
  · omega
  · split
    · split <;> omega
    · omega

/-- the length ahead of the parts -/
def Val.head (v : Val) : Int := if v.kind = 1 then sizeI v.num else if v.kind = 2 then (lenL v.list 1).1 else 1
end Go.Proofs.YtgfjcbofbbcnmaaDoor.Lift

namespace Go.Proofs.YtgfjcbofbbcnmaaDoor.Lift
set_option linter.unusedSimpArgs false
set_option linter.unusedVariables false
set_option linter.unnecessarySimpa false
open Go
variable {gl : Globs}

theorem backward_ok (l : List Int) : Con Tryd.prog gl 66 [.sl (ints l)] [] fun r φ => ∃ b, r = .prim (.func (.func 80) #[] #[.pointer (some ⟨b, 0, none⟩)]) ∧ φ = [(b, [.sl (ints l)])] := by
  refine t_in Tryd.func66 ?_
  intro X hP hgl hf hfn hn hR hids hfit
  refine t_rg0 ?_
  refine W_expose 1 (by simp [go_sem]; rfl) ?_
  intro b hb
  simp [go_sem]
  refine t_rg0 ?_
  refine t_a ?_
  refine W_retR hP hf hfn (.prim (.func (.func 80) #[] #[.pointer (some ⟨b, 0, none⟩)])) [(b, [.sl (ints l)])] (by simp [go_sem, hP, hgl, hn]) (by simp [go_sem]) (by simp) (by rw [hR.1]; exact ⟨b, rfl, rfl⟩) hR.2

/-- what is asked of yield: the numbers from the last one on -/
def BackY (P : Program) (gl : Globs) (l : List Int) (φ : Nat → Objs) (Stop : Objs → Loop → Prop) (lp : Nat) (r : Loop) (D0 : Nat → Nat → Prop) (w0 : World) : Prop :=
  ∀ (i : Nat) (x : Int), l[i]? = some x → YC P gl D0 w0 lp r [dint i, dint x] (φ (i + 1)) fun b φ' r' => if b = true then φ' = φ i ∧ r' = r else Stop φ' r'

theorem backIt_ok (l : List Int) (hlen : l.length ≤ 2147483648) (b0 : Nat) (φ : Nat → Objs) (hφ : ∀ i, (φ i).map (·.1) = (φ 0).map (·.1)) (hnd : ((φ 0).map (·.1)).Nodup) (hb0 : b0 ∉ (φ 0).map (·.1)) {Stop : Objs → Loop → Prop} (hStop : ∀ ψ r', Stop ψ r' → ψ.map (·.1) = (φ 0).map (·.1)) (lp : Nat) (r : Loop) (hps : r.params.size = 2) :
    ItC Tryd.prog gl 80 [.prim (.func (.yield lp) #[] #[]), ptr b0] ((b0, [.sl (ints l)]) :: φ l.length) lp r (BackY Tryd.prog gl l φ Stop lp r) (fun φ' r' => (φ' = (b0, [.sl (ints l)]) :: φ 0 ∧ r' = r) ∨ ∃ ψ, φ' = (b0, [.sl (ints l)]) :: ψ ∧ Stop ψ r') := by
  refine ItC_intro Tryd.func80 rfl (by kernel_rfl) (Nat.le_of_ble_eq_true rfl) ?_
  intro X hP hgl hf hfn hn hmd hids hfit hlp hY
  simp only [List.map_cons, List.mem_cons, not_or, hφ] at hlp
  obtain ⟨hlb, hlφ⟩ := hlp
  have hin : ∀ (i : Nat) (A : St), (∀ m v, (m, v) ∈ A → ∀ b ∈ (φ 0).map (·.1), m ≠ .heap b) → objsIn (get (A ++ heapSt (φ i))) (φ i) := fun i A h => objsIn_tail (by rw [hφ]; exact hnd) (by rw [hφ]; exact h)
  simp only [entryL, entry, argSt, heapSt, List.map_cons, List.map_nil, List.cons_append, List.nil_append]
  refine t_rg @hlb ?_
  refine t_a ?_
  refine W_tail (A' := [(.slot 3, .one (.v (dint ((l.length : Int) - 1 - (0 : Nat))))), (.slot 0, .one (.v (.prim (.func (.yield lp) #[] #[])))), (.slot 1, .one (.v (ptr b0))), (.heap lp, .ob r), (.heap b0, .row [.v (.sl (ints l))])]) (A := [_, _, _, _, _, _, _, _]) ?_ ?_ ?_
  · intro m v h
    simp only [List.mem_cons, List.not_mem_nil, or_false, Prod.mk.injEq] at h
    rcases h with ⟨rfl, rfl⟩ | ⟨rfl, rfl⟩ | ⟨rfl, rfl⟩ | ⟨rfl, rfl⟩ | ⟨rfl, rfl⟩ <;> simp [go_sem, hlb]
  · simp only [List.cons_append, List.nil_append]
    refine W_upto (X := X) l.length (fun _ => True) (fun j => (.slot 3, .one (.v (dint ((l.length : Int) - 1 - (j : Nat))))) :: (.slot 0, .one (.v (.prim (.func (.yield lp) #[] #[])))) :: (.slot 1, .one (.v (ptr b0))) :: (.heap lp, .ob r) :: (.heap b0, .row [.v (.sl (ints l))]) :: heapSt (φ (l.length - j))) trivial ?_ ?_
    · intro j hj _ hnext
      obtain ⟨i, hi⟩ : ∃ i : Nat, l.length = j + 1 + i := ⟨l.length - (j + 1), by omega⟩
      have hi1 : (l.length : Int) - 1 - (j : Nat) = (i : Nat) := by omega
      have hi2 : l.length - j = i + 1 := by omega
      have hi3 : l.length - (j + 1) = i := by omega
      have hx : l[i]? = some l[i] := List.getElem?_eq_getElem (by omega)
      rw [hi1, hi2]
      rw [hi3] at hnext
      generalize l[i] = x at hx
      have hgi := ints_get hx
      refine t_rg0 ?_
      refine t_yes ?_
      refine t_a ?_
      first | refine W_reg [] fun K hK => ?_ | refine W_regd (by rw [hP]; exact mixed) [] fun K hK => ?_
      refine t_s (j2 @hlb @hgi) ?_
      repeat (refine ⟨by omega, ?_⟩)
      refine vcK_yieldA (by simp [go_sem]) hP hgl (hY i x hx) hps (by simp [go_sem]) rfl ?_ (by rw [hφ]; exact hnd) (by simp [go_sem]) (by rw [hn]; exact Nat.le_of_ble_eq_true rfl) [(.slot 3, .one (.v (dint (i : Nat)))), (.slot 0, .one (.v (.prim (.func (.yield lp) #[] #[])))), (.slot 1, .one (.v (ptr b0))), (.heap b0, .row [.v (.sl (ints l))])] ?_ ?_ ?_
      · repeat (first | refine objsIn_slot ?_ | refine objsIn_heap (by rw [hφ]; assumption) ?_)
        exact objsIn_self (by rw [hφ]; exact hnd)
      · intro m v h
        simp only [List.mem_cons, List.not_mem_nil, or_false, Prod.mk.injEq] at h
        rw [hφ]
        rcases h with ⟨rfl, rfl⟩ | ⟨rfl, rfl⟩ | ⟨rfl, rfl⟩ | ⟨rfl, rfl⟩
        · simp [go_sem]
        · simp [go_sem]
        · simp [go_sem]
        · refine ⟨by simp [go_sem, hlb], by simp, by simp; exact fun e => hlb e.symm, fun b hb e => ?_⟩
          cases e; exact hb0 hb
      · intro b φ' r' h
        have : φ'.map (·.1) = (φ 0).map (·.1) := by
          split at h
          · rw [h.1, hφ]
          · exact hStop _ _ h
        rw [this]
        exact ⟨hnd, hlφ⟩
      · intro b φ' r' h _
        simp only [List.cons_append, List.nil_append]
        cases b with
        | true =>
          simp only [if_true] at h
          obtain ⟨rfl, rfl⟩ := h
          simp [go_sem, hP, hgl, hn]
          refine t_e ?_
          clear hK K
          refine t_no ?_
          refine t_rg0 ?_
          refine t_a ?_
          refine W_tail (A' := [(.slot 3, .one (.v (dint ((l.length : Int) - 1 - (j + 1 : Nat))))), (.slot 0, .one (.v (.prim (.func (.yield lp) #[] #[])))), (.slot 1, .one (.v (ptr b0))), (.heap lp, .ob r'), (.heap b0, .row [.v (.sl (ints l))])]) (A := [_, _, _, _, _, _, _, _, _]) ?_ (hnext trivial) ?_
          · intro m v h
            simp only [List.mem_cons, List.not_mem_nil, or_false, Prod.mk.injEq] at h
            rcases h with ⟨rfl, rfl⟩ | ⟨rfl, rfl⟩ | ⟨rfl, rfl⟩ | ⟨rfl, rfl⟩ | ⟨rfl, rfl⟩ <;> simp [go_sem, hlb]
            omega
          · intro m v h
            simp only [List.mem_cons, List.not_mem_nil, or_false, Prod.mk.injEq] at h
            rw [hφ]
            intro b hb
            rcases h with ⟨rfl, rfl⟩ | ⟨rfl, rfl⟩ | ⟨rfl, rfl⟩ | ⟨rfl, rfl⟩ | ⟨rfl, rfl⟩ | ⟨rfl, rfl⟩ | ⟨rfl, rfl⟩ | ⟨rfl, rfl⟩ | ⟨rfl, rfl⟩ <;> first | (simp; done) | (intro e; cases e; first | exact hb0 hb | exact hlφ hb)
        | false =>
          simp only [Bool.false_eq_true, if_false] at h
          have hids' := hStop _ _ h
          simp [go_sem, hP, hgl, hn]
          refine t_e ?_
          clear hK K
          refine t_yes ?_
          refine t_a ?_
          refine W_itfin hmd (φ := (b0, [.sl (ints l)]) :: φ') (q := r') (r := .tup []) (by rw [hP, hf, hfn]; exact Tryd.func80) (by rw [hfn]; simp [go_sem]) (objsIn_one ?_ ?_) ?_ ?_ (.inr ⟨φ', rfl, h⟩) outs_ret
          · simp [go_sem, hlb]
          · repeat (first | refine objsIn_slot ?_ | refine objsIn_heap (by rw [hids']; assumption) ?_)
            exact objsIn_self (by rw [hids']; exact hnd)
          · simp only [List.map_cons, List.nodup_cons, hids']; exact ⟨hb0, hnd⟩
          · simp [go_sem, hlb]
    · intro _
      refine t_rg0 ?_
      refine t_no ?_
      refine t_a ?_
      refine W_itfin hmd (φ := (b0, [.sl (ints l)]) :: φ 0) (q := r) (r := .tup []) (by rw [hP, hf, hfn]; exact Tryd.func80) (by rw [hfn]; simp [go_sem]) (objsIn_one ?_ ?_) ?_ ?_ (.inl ⟨rfl, rfl⟩) outs_end
      · simp [go_sem, hlb]
      · repeat (first | refine objsIn_slot ?_ | refine objsIn_heap (by assumption) ?_)
        exact objsIn_self hnd
      · simp only [List.map_cons, List.nodup_cons]; exact ⟨hb0, hnd⟩
      · simp [go_sem, hlb]
  · intro m v h
    simp only [List.mem_cons, List.not_mem_nil, or_false, Prod.mk.injEq] at h
    rw [hφ]
    intro b hb
    rcases h with ⟨rfl, rfl⟩ | ⟨rfl, rfl⟩ | ⟨rfl, rfl⟩ | ⟨rfl, rfl⟩ | ⟨rfl, rfl⟩ | ⟨rfl, rfl⟩ | ⟨rfl, rfl⟩ | ⟨rfl, rfl⟩ <;> first | (simp; done) | (intro e; cases e; first | exact hb0 hb | exact hlφ hb)
end Go.Proofs.YtgfjcbofbbcnmaaDoor.Lift

namespace Go.Proofs.YtgfjcbofbbcnmaaDoor.Lift
set_option linter.unusedSimpArgs false
set_option linter.unusedVariables false
set_option linter.unnecessarySimpa false
open Go
variable {gl : Globs}

def listTm (l : List Int) : Tm := l.foldr (fun x t => Tm.mk 8 0 (Ty.mk 0 []) [numTm x.toNat, t]) (Tm.mk 7 0 (Ty.mk 0 []) [])

def Val.termN : Val → Tm
  | .mk k n l a =>
    if k = 2 then listTm l else if k = 4 then Tm.mk 13 0 (Ty.mk 0 []) [] else if k = 3 then Tm.mk 10 0 (Ty.mk 0 []) (terms a) else numTm n.toNat
where
  terms : List Val → List Tm
    | [] => []
    | a :: r => a.termN :: terms r
theorem Val.terms_map (l : List Val) : termN.terms l = l.map Val.termN := by
  induction l with
  | nil => rfl
  | cons a r ih => simp [termN.terms, ih]
theorem Val.termN_eq (v : Val) : v.termN = if v.kind = 2 then listTm v.list else if v.kind = 4 then Tm.mk 13 0 (Ty.mk 0 []) [] else if v.kind = 3 then Tm.mk 10 0 (Ty.mk 0 []) (v.args.map Val.termN) else numTm v.num.toNat := by
  cases v; rw [termN, terms_map]; rfl

/-- pairs have two parts -/
def Val.two : Val → Prop
  | .mk k _ _ a => (k = 3 → a.length = 2) ∧ twos a
where
  twos : List Val → Prop
    | [] => True
    | a :: r => a.two ∧ twos r
theorem Val.twos_iff (l : List Val) : two.twos l ↔ ∀ a ∈ l, a.two := by
  induction l with
  | nil => simp [two.twos]
  | cons a r ih => simp [two.twos, ih]
theorem Val.two_eq (v : Val) : v.two ↔ (v.kind = 3 → v.args.length = 2) ∧ ∀ a ∈ v.args, a.two := by
  cases v; simp only [two, twos_iff, kind, args]

end Go.Proofs.YtgfjcbofbbcnmaaDoor.Lift

namespace Go.Proofs.YtgfjcbofbbcnmaaDoor.Lift
set_option linter.unusedSimpArgs false
set_option linter.unusedVariables false
set_option linter.unnecessarySimpa false
open Go
variable {gl : Globs}

theorem Val.nodesL_ok {l : List Val} {n : Int} {ok : Bool} (h : (nodesN.nodesL l (n, ok)).2 = true) : ok = true ∧ ∀ a ∈ l, a.nodesN.2 = true := by
  induction l generalizing n ok with
  | nil => simp [nodesN.nodesL] at h; exact ⟨h, by simp⟩
  | cons a r ih =>
    cases ok with
    | false => rw [nodesL_no] at h; cases h
    | true =>
      simp only [nodesN.nodesL, if_true] at h
      obtain ⟨h1, h2⟩ := ih h
      exact ⟨rfl, by simpa using ⟨h1, h2⟩⟩

/-- a value that has a form has no negative numbers, and pairs of two parts -/
theorem Val.ok_all (v : Val) (h : v.nodesN.2 = true) : v.allPos ∧ v.two := by
  induction v using Val.ind with
  | h v ih =>
  rw [nodesN_eq] at h
  obtain ⟨h1, h2⟩ := nodesL_ok h
  rw [allPos_eq, two_eq]
  have hpos : v.pos ∧ (v.kind = 3 → v.args.length = 2) := by
    unfold okB at h1
    unfold pos
    split at h1
    · rename_i hk
      simp at h1
      simp [hk, h1]
    · split at h1
      · rename_i hk
        simp at h1
        simp [hk]
        obtain ⟨⟨q1, q2⟩, q3⟩ := h1
        rw [q1]
        exact ⟨by omega, fun n hn => by have := q2 n hn; omega⟩
      · split at h1
        · simp at h1; simp [h1]
        · split at h1
          · rename_i hk; simp at h1; simp [h1, hk]
          · cases h1
  exact ⟨⟨hpos.1, fun a ha => (ih a ha (h2 a ha)).1⟩, hpos.2, fun a ha => (ih a ha (h2 a ha)).2⟩

def zeroTm : Tm := Tm.mk 0 0 (Ty.mk 0 []) []

def Val.checkN (v : Val) : Int := if v.nodesN.2 = true then if v.nodesN.1 > 64 then 4 else 0 else 2

def Val.termE (v : Val) : Tm × Int := if v.checkN ≠ 0 then (zeroTm, v.checkN) else if v.lengthN > 4096 then (zeroTm, 4) else (v.termN, 0)

/-- values without parts, with small numbers -/
def Val.flat (v : Val) : Prop :=
  v.args = [] ∧ ((v.kind = 1 ∧ 0 ≤ v.num ∧ v.num ≤ 4 ∧ v.list = []) ∨ (v.kind = 2 ∧ v.num = 0 ∧ v.list.length ≤ 3 ∧ ∀ x ∈ v.list, 0 ≤ x ∧ x ≤ 3) ∨ (v.kind = 4 ∧ v.num = 0 ∧ v.list = []))
def Val.good (v : Val) : Prop := v.flat ∨ ∃ a b, v = Val.mk 3 0 [] [a, b] ∧ a.flat ∧ b.flat


def sumL (l : List Int) : Int := (l.map (· + 2)).sum
theorem sumL_bd : ∀ (l : List Int), (∀ x ∈ l, 0 ≤ x ∧ x ≤ 3) → 0 ≤ sumL l ∧ sumL l ≤ 5 * l.length
  | [], _ => by simp [sumL]
  | x :: r, h => by
    have h1 := h x (by simp)
    have h2 := sumL_bd r fun y hy => h y (by simp [hy])
    have : sumL (x :: r) = x + 2 + sumL r := by simp [sumL]
    rw [this]
    simp only [List.length_cons]
    omega

def Val.flatSize (v : Val) : Int := if v.kind = 1 then 1 + v.num else if v.kind = 2 then 1 + sumL v.list else 1

theorem Val.flatSize_bd {v : Val} (h : v.flat) : 1 ≤ v.flatSize ∧ v.flatSize ≤ 16 := by
  obtain ⟨-, h⟩ := h
  unfold flatSize
  rcases h with ⟨h1, h2, h3, h4⟩ | ⟨h1, h2, h3, h4⟩ | ⟨h1, h2, h3⟩
  · simp [h1]; omega
  · have := sumL_bd v.list h4
    simp [h1]; omega
  · simp [h1]

end Go.Proofs.YtgfjcbofbbcnmaaDoor.Lift

/-
  Plain facts: the types of terms.
-/
namespace Go.Proofs.YtgfjcbofbbcnmaaDoor.Lift
set_option linter.unusedSimpArgs false
set_option linter.unusedVariables false
set_option linter.unnecessarySimpa false
open Go

def zeroTy : Ty := Ty.mk 0 []
def Ty.arg (t : Ty) (i : Nat) : Ty := t.args.getD i zeroTy
def Ty.ok (t : Ty) : Prop := t.shape = true ∧ t.count ≤ 64

theorem Ty.checkN_iff (t : Ty) : t.checkN = 0 ↔ t.ok := by
  unfold Ty.checkN Ty.ok
  split
  · split
    · rename_i h; simp; omega
    · rename_i h; simp; constructor <;> first | assumption | omega
  · rename_i h; simp [h]

def okN (t : Ty) : Ty × Int := if t.checkN = 0 then (t, 0) else (zeroTy, 4)

theorem okN_ok (t : Ty) (h : (okN t).2 = 0) : (okN t).1.ok ∧ okN t = (t, 0) := by
  unfold okN at h ⊢
  split
  · rename_i h2; exact ⟨(Ty.checkN_iff t).1 h2, rfl⟩
  · rename_i h2; rw [if_neg h2] at h; cases h

/-- the type of a node, of the types of its parts -/
def ruleN (k : Int) (ty : Ty) (l : List Ty) : Ty × Int :=
  if k = 2 then okN (Ty.mk 4 [ty, l.getD 0 zeroTy])
  else if k = 3 then if (l.getD 0 zeroTy).kind = 4 ∧ ((l.getD 0 zeroTy).arg 0).same (l.getD 1 zeroTy) = true then ((l.getD 0 zeroTy).arg 1, 0) else (zeroTy, 7)
  else if k = 4 then (Ty.mk 1 [], 0)
  else if k = 5 then if (l.getD 0 zeroTy).same (Ty.mk 1 []) = true then (Ty.mk 1 [], 0) else (zeroTy, 7)
  else if k = 6 then if (l.getD 0 zeroTy).same ty = true ∧ (l.getD 1 zeroTy).same (Ty.mk 4 [Ty.mk 1 [], Ty.mk 4 [ty, ty]]) = true ∧ (l.getD 2 zeroTy).same (Ty.mk 1 []) = true then (ty, 0) else (zeroTy, 7)
  else if k = 7 then (Ty.mk 2 [], 0)
  else if k = 8 then if (l.getD 0 zeroTy).same (Ty.mk 1 []) = true ∧ (l.getD 1 zeroTy).same (Ty.mk 2 []) = true then (Ty.mk 2 [], 0) else (zeroTy, 7)
  else if k = 9 then if (l.getD 0 zeroTy).same ty = true ∧ (l.getD 1 zeroTy).same (Ty.mk 4 [Ty.mk 1 [], Ty.mk 4 [Ty.mk 2 [], Ty.mk 4 [ty, ty]]]) = true ∧ (l.getD 2 zeroTy).same (Ty.mk 2 []) = true then (ty, 0) else (zeroTy, 7)
  else if k = 10 then okN (Ty.mk 3 [l.getD 0 zeroTy, l.getD 1 zeroTy])
  else if k = 11 then if (l.getD 0 zeroTy).kind = 3 then ((l.getD 0 zeroTy).arg 0, 0) else (zeroTy, 7)
  else if k = 12 then if (l.getD 0 zeroTy).kind = 3 then ((l.getD 0 zeroTy).arg 1, 0) else (zeroTy, 7)
  else (Ty.mk 5 [], 0)

namespace Tm
set_option linter.unusedSimpArgs false
set_option linter.unusedVariables false
set_option linter.unnecessarySimpa false
def inferN : Tm → List Ty → Ty × Int
  | .mk k i ty a, g =>
    if k = 1 then if (g.length : Int) ≤ i then (zeroTy, 6) else (g.getD (g.length - 1 - i.toNat) zeroTy, 0)
    else if (infers a (if k = 2 then g ++ [ty] else g)).2 = 0 then ruleN k ty (infers a (if k = 2 then g ++ [ty] else g)).1
    else (zeroTy, (infers a (if k = 2 then g ++ [ty] else g)).2)
where
  infers : List Tm → List Ty → List Ty × Int
    | [], _ => ([], 0)
    | a :: r, g => if (a.inferN g).2 = 0 then if (infers r g).2 = 0 then ((a.inferN g).1 :: (infers r g).1, 0) else ([], (infers r g).2) else ([], (a.inferN g).2)

theorem inferN_eq (t : Tm) (g : List Ty) : t.inferN g =
    if t.kind = 1 then if (g.length : Int) ≤ t.index then (zeroTy, 6) else (g.getD (g.length - 1 - t.index.toNat) zeroTy, 0)
    else if (inferN.infers t.args (if t.kind = 2 then g ++ [t.type] else g)).2 = 0 then ruleN t.kind t.type (inferN.infers t.args (if t.kind = 2 then g ++ [t.type] else g)).1
    else (zeroTy, (inferN.infers t.args (if t.kind = 2 then g ++ [t.type] else g)).2) := by
  cases t; rw [inferN]; rfl

theorem infers_all (l : List Tm) (g : List Ty) (h : (inferN.infers l g).2 = 0) :
    (inferN.infers l g).1.length = l.length ∧ ∀ (i : Nat) (x : Tm), l[i]? = some x → (x.inferN g).2 = 0 ∧ (inferN.infers l g).1[i]? = some (x.inferN g).1 := by
  induction l with
  | nil => simp [inferN.infers]
  | cons a r ih =>
    simp only [inferN.infers] at h ⊢
    by_cases ha : (a.inferN g).2 = 0
    · by_cases hr : (inferN.infers r g).2 = 0
      · simp only [ha, hr, if_true]
        obtain ⟨h1, h2⟩ := ih hr
        refine ⟨by simp [h1], ?_⟩
        intro i x hx
        cases i with
        | zero => simp at hx; subst hx; exact ⟨ha, by simp⟩
        | succ i => simp at hx; simpa using h2 i x hx
      · simp [ha, hr] at h
    · simp [ha] at h
end Tm

theorem Ty.ok_arg {t : Ty} (h : t.ok) {a : Ty} (ha : a ∈ t.args) : a.ok := by
  obtain ⟨h1, h2⟩ := h
  rw [Ty.shape_eq, Bool.and_eq_true, Ty.shapes_iff] at h1
  have := Ty.count_mem ha
  rw [Ty.count_eq] at h2
  exact ⟨h1.2 a ha, by omega⟩

theorem Ty.ok_two {t : Ty} (h : t.ok) (hk : t.kind = 3 ∨ t.kind = 4) : t.args.length = 2 := by
  obtain ⟨h1, h2⟩ := h
  rw [Ty.shape_eq, Bool.and_eq_true] at h1
  rcases hk with hk | hk <;> simpa [tyKind, hk] using h1.1

theorem Ty.ok_args {t : Ty} (h : t.ok) (hk : t.kind = 3 ∨ t.kind = 4) : ∃ a b, t.args = [a, b] ∧ a.ok ∧ b.ok ∧ t.arg 0 = a ∧ t.arg 1 = b := by
  have h2 := Ty.ok_two h hk
  match ha : t.args, h2 with
  | [a, b], _ => exact ⟨a, b, rfl, Ty.ok_arg h (by rw [ha]; simp), Ty.ok_arg h (by rw [ha]; simp), by simp [Ty.arg, ha], by simp [Ty.arg, ha]⟩

theorem ok_nat : (Ty.mk 1 []).ok := ⟨rfl, by decide⟩
theorem ok_list : (Ty.mk 2 []).ok := ⟨rfl, by decide⟩
theorem ok_unit : (Ty.mk 5 []).ok := ⟨rfl, by decide⟩

/-- what a valid term says about its node -/
theorem Tm.shape_node {t : Tm} (h : t.shape = true) : ((t.args.length : Int) = arityI t.kind) ∧ 0 ≤ t.index ∧ (t.kind = 1 ∨ t.index = 0) ∧ (if t.kind = 2 ∨ t.kind = 6 ∨ t.kind = 9 then t.type.ok else t.type.zero = true) ∧ ∀ a ∈ t.args, a.shape = true := by
  rw [Tm.shape_eq, Bool.and_eq_true, Tm.shapes_iff] at h
  obtain ⟨h1, h2⟩ := h
  simp only [tmKind, Bool.and_eq_true, Bool.or_eq_true, decide_eq_true_eq, tyOfKind] at h1
  refine ⟨h1.1.1.1, h1.1.1.2, h1.1.2, ?_, h2⟩
  by_cases hk : t.kind = 2 ∨ t.kind = 6 ∨ t.kind = 9
  · rw [if_pos hk] at h1 ⊢; exact (Ty.checkN_iff _).1 (by simpa using h1.2)
  · rw [if_neg hk] at h1 ⊢; exact h1.2

theorem Tm.inferN_ok (t : Tm) (g : List Ty) (ht : t.shape = true) (hg : ∀ x ∈ g, x.ok) (h : (t.inferN g).2 = 0) : (t.inferN g).1.ok := by
  induction t using Tm.ind generalizing g with
  | h t ih =>
  obtain ⟨ha, hi, hv, hty, hs⟩ := Tm.shape_node ht
  rw [inferN_eq] at h ⊢
  by_cases h1 : t.kind = 1
  · rw [if_pos h1] at h ⊢
    by_cases h2 : (g.length : Int) ≤ t.index
    · rw [if_pos h2] at h; cases h
    · rw [if_neg h2]
      have : g.length - 1 - t.index.toNat < g.length := by omega
      simp only [List.getD_eq_getElem?_getD, List.getElem?_eq_getElem this, Option.getD_some]
      exact hg _ (List.getElem_mem _)
  · rw [if_neg h1] at h ⊢
    generalize hge : (if t.kind = 2 then g ++ [t.type] else g) = g' at h ⊢
    have hg' : ∀ x ∈ g', x.ok := by
      subst hge
      split
      · rename_i h2
        intro x hx
        rcases List.mem_append.1 hx with hx | hx
        · exact hg x hx
        · rw [List.mem_singleton.1 hx]; rwa [if_pos (.inl h2)] at hty
      · exact hg
    by_cases h2 : (inferN.infers t.args g').2 = 0
    · rw [if_pos h2] at h ⊢
      obtain ⟨hl, hx⟩ := infers_all _ _ h2
      have key : ∀ i : Nat, i < t.args.length → ((inferN.infers t.args g').1.getD i zeroTy).ok := by
        intro i hi
        obtain ⟨x1, x2⟩ := hx i t.args[i] (List.getElem?_eq_getElem hi)
        rw [List.getD_eq_getElem?_getD, x2, Option.getD_some]
        exact ih _ (List.getElem_mem _) g' (hs _ (List.getElem_mem _)) hg' x1
      generalize (inferN.infers t.args g').1 = l at h key ⊢
      unfold ruleN at h ⊢
      by_cases hk : t.kind = 2
      · rw [if_pos hk] at h ⊢
        exact (okN_ok _ h).1
      rw [if_neg hk] at h ⊢
      by_cases hk : t.kind = 3
      · rw [if_pos hk] at h ⊢
        by_cases hx : (l.getD 0 zeroTy).kind = 4 ∧ ((l.getD 0 zeroTy).arg 0).same (l.getD 1 zeroTy) = true
        · rw [if_pos hx] at h ⊢
          obtain ⟨a, b, e, oa, ob, e0, e1⟩ := Ty.ok_args (key 0 (by rw [hk] at ha; simp [arityI] at ha; omega)) (.inr hx.1)
          rw [e1]; exact ob
        · rw [if_neg hx] at h; cases h
      rw [if_neg hk] at h ⊢
      by_cases hk : t.kind = 4
      · rw [if_pos hk] at h ⊢
        exact ok_nat
      rw [if_neg hk] at h ⊢
      by_cases hk : t.kind = 5
      · rw [if_pos hk] at h ⊢
        by_cases hx : (l.getD 0 zeroTy).same (Ty.mk 1 []) = true
        · rw [if_pos hx] at h ⊢
          exact ok_nat
        · rw [if_neg hx] at h; cases h
      rw [if_neg hk] at h ⊢
      by_cases hk : t.kind = 6
      · rw [if_pos hk] at h ⊢
        by_cases hx : (l.getD 0 zeroTy).same t.type = true ∧ (l.getD 1 zeroTy).same (Ty.mk 4 [Ty.mk 1 [], Ty.mk 4 [t.type, t.type]]) = true ∧ (l.getD 2 zeroTy).same (Ty.mk 1 []) = true
        · rw [if_pos hx] at h ⊢
          rwa [if_pos (.inr (.inl hk))] at hty
        · rw [if_neg hx] at h; cases h
      rw [if_neg hk] at h ⊢
      by_cases hk : t.kind = 7
      · rw [if_pos hk] at h ⊢
        exact ok_list
      rw [if_neg hk] at h ⊢
      by_cases hk : t.kind = 8
      · rw [if_pos hk] at h ⊢
        by_cases hx : (l.getD 0 zeroTy).same (Ty.mk 1 []) = true ∧ (l.getD 1 zeroTy).same (Ty.mk 2 []) = true
        · rw [if_pos hx] at h ⊢
          exact ok_list
        · rw [if_neg hx] at h; cases h
      rw [if_neg hk] at h ⊢
      by_cases hk : t.kind = 9
      · rw [if_pos hk] at h ⊢
        by_cases hx : (l.getD 0 zeroTy).same t.type = true ∧ (l.getD 1 zeroTy).same (Ty.mk 4 [Ty.mk 1 [], Ty.mk 4 [Ty.mk 2 [], Ty.mk 4 [t.type, t.type]]]) = true ∧ (l.getD 2 zeroTy).same (Ty.mk 2 []) = true
        · rw [if_pos hx] at h ⊢
          rwa [if_pos (.inr (.inr hk))] at hty
        · rw [if_neg hx] at h; cases h
      rw [if_neg hk] at h ⊢
      by_cases hk : t.kind = 10
      · rw [if_pos hk] at h ⊢
        exact (okN_ok _ h).1
      rw [if_neg hk] at h ⊢
      by_cases hk : t.kind = 11
      · rw [if_pos hk] at h ⊢
        by_cases hx : (l.getD 0 zeroTy).kind = 3
        · rw [if_pos hx] at h ⊢
          obtain ⟨a, b, e, oa, ob, e0, e1⟩ := Ty.ok_args (key 0 (by rw [hk] at ha; simp [arityI] at ha; omega)) (.inl hx)
          rw [e0]; exact oa
        · rw [if_neg hx] at h; cases h
      rw [if_neg hk] at h ⊢
      by_cases hk : t.kind = 12
      · rw [if_pos hk] at h ⊢
        by_cases hx : (l.getD 0 zeroTy).kind = 3
        · rw [if_pos hx] at h ⊢
          obtain ⟨a, b, e, oa, ob, e0, e1⟩ := Ty.ok_args (key 0 (by rw [hk] at ha; simp [arityI] at ha; omega)) (.inl hx)
          rw [e1]; exact ob
        · rw [if_neg hx] at h; cases h
      rw [if_neg hk] at h ⊢
      exact ok_unit
    · rw [if_neg h2] at h
      exact absurd h h2
end Go.Proofs.YtgfjcbofbbcnmaaDoor.Lift

namespace Go.Proofs.YtgfjcbofbbcnmaaDoor.Lift
set_option linter.unusedSimpArgs false
set_option linter.unusedVariables false
set_option linter.unnecessarySimpa false
open Go
variable {gl : Globs}

theorem typeof0_ok (v : Val) (ht : v.two) : Con1 Tryd.prog gl 65 [v.dv] [] v.tyN.dv [] := by
  induction v using Val.ind with
  | h v ih =>
  obtain ⟨ht1, ht2⟩ := (Val.two_eq v).1 ht
  refine t_in Tryd.func65 ?_
  intro X hP hgl hf hfn hn hR hids hfit
  by_cases h2 : v.kind = 2
  · have hr : v.tyN = Ty.mk 2 [] := by rw [Val.tyN_eq]; simp [h2]
    refine t_g @h2 ?_
    refine t_c1 @h2 list_ok ?_
    refine t_r ?_
    simp [go_sem, hP, hgl, hn, hr] <;> (try omega)
    all_goals exact t_f
  by_cases h4 : v.kind = 4
  · have hr : v.tyN = Ty.mk 5 [] := by rw [Val.tyN_eq]; simp [h4]
    refine t_g @h4 ?_
    refine t_r ?_
    simp [go_sem, hP, hgl, hn, hr] <;> (try omega)
    all_goals exact t_f
  by_cases h3 : v.kind = 3
  · have h2l := ht1 h3
    match hargs : v.args, h2l with
    | [x, y], _ =>
    have hx : x ∈ v.args := by rw [hargs]; simp
    have hy : y ∈ v.args := by rw [hargs]; simp
    have hr : v.tyN = Ty.mk 3 [x.tyN, y.tyN] := by rw [Val.tyN_eq]; simp [h3, hargs]
    refine t_g @h3 ?_
    refine t_c2 (j2 @h3 @hargs) (ih x hx (ht2 x hx)) (ih y hy (ht2 y hy)) ?_
    refine t_r ?_
    simp [go_sem, hP, hgl, hn, hr] <;> (try omega)
    all_goals exact t_f
  have hr : v.tyN = Ty.mk 1 [] := by rw [Val.tyN_eq]; simp [h2, h3, h4]
  refine t_g (j2 @h2 (j2 @h3 @h4)) ?_
  refine t_c1 @h2 nat_ok ?_
  refine t_r ?_
  simp [go_sem, hP, hgl, hn, hr] <;> (try omega)
  all_goals exact t_f

def Val.typeE (v : Val) : Ty × Int := if v.checkN ≠ 0 then (zeroTy, v.checkN) else (v.tyN, 0)

theorem typeE_ok (v : Val) (hc : v.count ≤ 1048576) : Con1 Tryd.prog gl 41 [v.dv] [] (.tup [v.typeE.1.dv, dint v.typeE.2]) [] := by
  refine t_in Tryd.func41 ?_
  intro X hP hgl hf hfn hn hR hids hfit
  refine t_g0 ?_
  have hck : (if v.nodesN.2 = true then if v.nodesN.1 > 64 then 4 else 0 else 2) = v.checkN := rfl
  have hcon := check_ok (gl := gl) v (by omega)
  rw [hck] at hcon
  refine t_c1 trivial hcon ?_
  by_cases h : v.checkN = 0
  · have hok : v.nodesN.2 = true := by
      unfold Val.checkN at h
      split at h
      · assumption
      · cases h
    obtain ⟨ha, ht⟩ := v.ok_all hok
    refine t_g @h ?_
    refine t_c1 trivial (typeof0_ok v ht) ?_
    refine t_r ?_
    simp [go_sem, hP, hgl, hn, Val.typeE, h] <;> (try omega)
    all_goals exact t_f
  · refine t_g @h ?_
    refine t_r ?_
    simp [go_sem, hP, hgl, hn, Val.typeE, h, zeroTy] <;> (try omega)
    all_goals exact t_f

theorem ref05_ints_ok (a b : List Int) (ha : a.length ≤ 2147483648) (hb : b.length ≤ 2147483648) : Con1 Tryd.prog gl 49 [.sl (ints a), .sl (ints b)] [] (dbool (decide (a = b))) [] := by
  refine t_in Tryd.func49 ?_
  intro X hP hgl hf hfn hn hR hids hfit
  by_cases hl : a.length = b.length
  · refine t_g @hl ?_
    refine t_a ?_
    refine t_sub [] @hl (W_upto (a.length) (fun i => ∀ (j : Nat) (x y : Int), j < i → a[j]? = some x → b[j]? = some y → x = y) (fun i => [(.slot 13, .one (.v (dint i))), (.slot 12, .one (.v (dint a.length))), (.slot 0, .one (.v (.sl (ints a)))), (.slot 1, .one (.v (.sl (ints b))))]) (by intro j x y h; omega) ?_ ?_)
    · intro i hlt hI hnext
      obtain ⟨x, hx⟩ : ∃ x, a[i]? = some x := ⟨_, List.getElem?_eq_getElem hlt⟩
      obtain ⟨y, hy⟩ : ∃ y, b[i]? = some y := ⟨_, List.getElem?_eq_getElem (by omega)⟩
      have gx := ints_get hx
      have gy := ints_get hy
      refine t_rg0 ?_
      refine t_yes ?_
      by_cases hs : x = y
      · refine t_gt (wr []) trivial (j2 @gx (j2 @gy @hs)) (hnext ?_)
        intro j x' y' hj hx' hy'
        by_cases hji : j = i
        · subst hji; rw [hx] at hx'; rw [hy] at hy'; cases hx'; cases hy'; exact hs
        · exact hI j x' y' (by omega) hx' hy'
      · have hne : a ≠ b := fun e => by subst e; rw [hx] at hy; cases hy; exact hs rfl
        refine t_g (j2 @gx (j2 @gy @hs)) ?_
        refine t_r ?_
        simp [go_sem, hP, hgl, hn, hne] <;> (try omega)
    · intro hI
      have he : a = b := List.ext_getElem hl fun i h1 h2 => hI i _ _ h1 (List.getElem?_eq_getElem h1) (List.getElem?_eq_getElem h2)
      refine t_rg0 ?_
      refine t_no ?_
      refine t_g0 ?_
      refine t_r ?_
      simp [go_sem, hP, hgl, hn, he] <;> (try omega)
  · have hne : a ≠ b := fun e => hl (by rw [e])
    refine t_g @hl ?_
    refine t_r ?_
    simp [go_sem, hP, hgl, hn, hne] <;> (try omega)
end Go.Proofs.YtgfjcbofbbcnmaaDoor.Lift

namespace Go.Proofs.YtgfjcbofbbcnmaaDoor.Lift
set_option linter.unusedSimpArgs false
set_option linter.unusedVariables false
set_option linter.unnecessarySimpa false
open Go
variable {gl : Globs}

theorem ref01_fun_ok (a b : Ty) : Con1 Tryd.prog gl 12 [a.dv, b.dv] [] (Ty.mk 4 [a, b]).dv [] := by
  refine t_in Tryd.func12 ?_
  intro X hP hgl hf hfn hn hR hids hfit
  refine t_g0 ?_
  refine t_c2 trivial (ref01_copy_ok a) (ref01_copy_ok b) ?_
  refine t_r ?_
  simp [go_sem, hP, hgl, hn] <;> (try omega)
  all_goals exact t_f

theorem count_two (k : Int) (a b : Ty) : (Ty.mk k [a, b]).count = 1 + (a.count + (b.count + 0)) := rfl

theorem nat_v : (Ty.mk 1 []).dv = .agg [dint 1, .sl []] := rfl
theorem list_v : (Ty.mk 2 []).dv = .agg [dint 2, .sl []] := rfl

end Go.Proofs.YtgfjcbofbbcnmaaDoor.Lift

namespace Go.Proofs.YtgfjcbofbbcnmaaDoor.Lift
set_option linter.unusedSimpArgs false
set_option linter.unusedVariables false
set_option linter.unnecessarySimpa false
open Go
variable {gl : Globs}

def Tm.typedE (t : Tm) (g : List Ty) : Ty × Int := if t.checkN = 0 then t.inferN g else (zeroTy, t.checkN)
def Tm.typeE (t : Tm) (g : List Ty) : Ty × Int := if ctxN g = 0 then t.typedE g else (zeroTy, ctxN g)

theorem Tm.checkN_iff (t : Tm) : t.checkN = 0 ↔ t.shape = true ∧ t.count ≤ 4096 := by
  unfold Tm.checkN
  split
  · split
    · rename_i h; simp; omega
    · rename_i h; simp; constructor <;> first | assumption | omega
  · rename_i h; simp [h]

def Tm.leastN : Tm → Int → Bool
  | .mk _ i _ a, m => !decide (m < i) && leasts a m
where
  leasts : List Tm → Int → Bool
    | [], _ => true
    | a :: r, m => a.leastN m && leasts r m
theorem Tm.leastN_eq (t : Tm) (m : Int) : t.leastN m = (!decide (m < t.index) && leastN.leasts t.args m) := by cases t; rfl
theorem ref05_same_ok (a b : Val) : Con1 Tryd.prog gl 18 [a.dv, b.dv] [] (dbool (a.same b)) [] := by
  induction a using Val.ind generalizing b with
  | h a ih =>
  refine t_in Tryd.func18 ?_
  intro X hP hgl hf hfn hn hR hids hfit
  have hfa := (Val.fit_eq a).1 ((Val.dv_fit a).1 (hfit a.dv (by simp)))
  have hfb := (Val.fit_eq b).1 ((Val.dv_fit b).1 (hfit b.dv (by simp)))
  have hla := hfa.2.2.2.1
  have hlb := hfb.2.2.2.1
  have hia := hfa.2.2.1.1
  have hib := hfb.2.2.1.1
  simp only [BIG] at hla hlb hia hib
  by_cases hk : a.kind = b.kind
  · by_cases hi : a.num = b.num
    · by_cases ht : a.list = b.list
      · by_cases hl : a.args.length = b.args.length
        · refine t_g (j2 @hk @hi) ?_
          refine t_c1 (j2 @hk (j2 @hi (j2 @ht @hl))) (ref05_ints_ok a.list b.list hia hib) ?_
          refine t_g (j2 @ht @hl) ?_
          refine t_a ?_
          refine t_sub [] (j2 @hk (j2 @hi (j2 @hl @ht))) (W_upto (a.args.length) (fun i => ∀ (j : Nat) (x y : Val), j < i → a.args[j]? = some x → b.args[j]? = some y → x.same y = true) (fun i => [(.slot 38, .one (.v (dint i))), (.slot 37, .one (.v (dint a.args.length))), (.slot 3, .one (.loc 3 0)), (.loc 3, .row ([.v (dint b.kind), .v (dint b.num), .v (.sl (ints b.list)), .v (.sl (b.args.map Val.cells))])), (.slot 2, .one (.loc 2 0)), (.loc 2, .row ([.v (dint a.kind), .v (dint a.num), .v (.sl (ints a.list)), .v (.sl (a.args.map Val.cells))]))]) (by intro j x y h; omega) ?_ ?_)
          · intro i hlt hI hnext
            obtain ⟨x, hx⟩ : ∃ x, a.args[i]? = some x := ⟨_, List.getElem?_eq_getElem hlt⟩
            obtain ⟨y, hy⟩ : ∃ y, b.args[i]? = some y := ⟨_, List.getElem?_eq_getElem (by omega)⟩
            refine t_rg0 ?_
            refine t_yes ?_
            refine t_g (j2 @hx @hy) ?_
            refine t_c1 (j2 @hx @hy) (ih x (List.mem_of_getElem? hx) y) ?_
            by_cases hs : x.same y = true
            · refine t_gt (wr []) trivial @hs (hnext ?_)
              intro j x' y' hj hx' hy'
              by_cases hji : j = i
              · subst hji; rw [hx] at hx'; rw [hy] at hy'; cases hx'; cases hy'; exact hs
              · exact hI j x' y' (by omega) hx' hy'
            · refine t_g @hs ?_
              refine t_r ?_
              simp [go_sem, hP, hgl, hn] <;> (try omega)
              refine Bool.eq_false_iff.2 ?_
              intro h
              rw [Val.same_eq] at h
              simp only [Bool.and_eq_true, Val.sames_iff] at h
              exact hs (h.2.2 i x y hx hy)
          · intro hI
            refine t_rg0 ?_
            refine t_no ?_
            refine t_rg0 ?_
            refine t_r ?_
            simp [go_sem, hP, hgl, hn] <;> (try omega)
            rw [Val.same_eq]
            simp only [Bool.and_eq_true, Val.sames_iff]
            exact ⟨⟨⟨by simp [hk], by simp [hi]⟩, by simp [ht]⟩, hl, fun i x y hx hy => hI i x y (List.getElem?_eq_some_iff.1 hx).1 hx hy⟩
        · refine t_g (j2 @hk @hi) ?_
          refine t_c1 (j2 @hk (j2 @hi (j2 @ht @hl))) (ref05_ints_ok a.list b.list hia hib) ?_
          refine t_g (j2 @ht @hl) ?_
          refine t_r ?_
          simp [go_sem, hP, hgl, hn] <;> (try omega)
          refine Bool.eq_false_iff.2 ?_
          intro h
          rw [Val.same_eq] at h
          simp only [Bool.and_eq_true, Val.sames_iff] at h
          exact hl h.2.1
      · refine t_g (j2 @hk @hi) ?_
        refine t_c1 (j2 @hk (j2 @hi @ht)) (ref05_ints_ok a.list b.list hia hib) ?_
        refine t_g @ht ?_
        refine t_r ?_
        simp [go_sem, hP, hgl, hn] <;> (try omega)
        simp [Val.same_eq, ht]
    · refine t_g (j2 @hk @hi) ?_
      refine t_r ?_
      simp [go_sem, hP, hgl, hn] <;> (try omega)
      simp [Val.same_eq, hi]
  · refine t_g @hk ?_
    refine t_r ?_
    simp [go_sem, hP, hgl, hn] <;> (try omega)
    simp [Val.same_eq, hk]
end Go.Proofs.YtgfjcbofbbcnmaaDoor.Lift

namespace Go.Proofs.YtgfjcbofbbcnmaaDoor.Lift
set_option linter.unusedSimpArgs false
set_option linter.unusedVariables false
set_option linter.unnecessarySimpa false
open Go
variable {gl : Globs}

def Tm.argN (t : Tm) (i : Nat) : Tm := t.args.getD i zeroTm

/-- whether a valid term's root is a redex -/
def Tm.rootN (t : Tm) : Bool :=
  if t.kind = 3 then decide ((t.argN 0).kind = 2)
  else if t.kind = 6 then decide ((t.argN 2).kind = 4) || decide ((t.argN 2).kind = 5)
  else if t.kind = 9 then decide ((t.argN 2).kind = 7) || decide ((t.argN 2).kind = 8)
  else if t.kind = 11 then decide ((t.argN 0).kind = 10)
  else if t.kind = 12 then decide ((t.argN 0).kind = 10)
  else false

/-- whether a term has no redex -/
def Tm.nf : Tm → Bool
  | .mk k i ty a => !(Tm.mk k i ty a).rootN && nfs a
where
  nfs : List Tm → Bool
    | [] => true
    | a :: r => a.nf && nfs r
theorem Tm.nf_eq (t : Tm) : t.nf = (!t.rootN && nf.nfs t.args) := by cases t; rfl
end Go.Proofs.YtgfjcbofbbcnmaaDoor.Lift

/-
  Plain facts: lifting, putting in, reducing.
-/
namespace Go.Proofs.YtgfjcbofbbcnmaaDoor.Lift
set_option linter.unusedSimpArgs false
set_option linter.unusedVariables false
set_option linter.unnecessarySimpa false
open Go

namespace Tm
set_option linter.unusedSimpArgs false
set_option linter.unusedVariables false
set_option linter.unnecessarySimpa false
/-- all indexes are numbers up to m -/
def idx : Tm → Int → Prop
  | .mk _ i _ a, m => (0 ≤ i ∧ i ≤ m) ∧ idxs a m
where
  idxs : List Tm → Int → Prop
    | [], _ => True
    | x :: r, m => x.idx m ∧ idxs r m
theorem idxs_iff (l : List Tm) (m : Int) : idx.idxs l m ↔ ∀ x ∈ l, x.idx m := by
  induction l with
  | nil => simp [idx.idxs]
  | cons a r ih => simp [idx.idxs, ih]
theorem idx_eq (t : Tm) (m : Int) : t.idx m ↔ (0 ≤ t.index ∧ t.index ≤ m) ∧ ∀ x ∈ t.args, x.idx m := by cases t; simp only [idx, idxs_iff, index, args]
theorem idx_mono {t : Tm} {m n : Int} (h : m ≤ n) (hi : t.idx m) : t.idx n := by
  induction t using Tm.ind with
  | h t ih =>
  rw [idx_eq] at hi ⊢
  exact ⟨⟨hi.1.1, by omega⟩, fun x hx => ih x hx (hi.2 x hx)⟩
end Tm
end Go.Proofs.YtgfjcbofbbcnmaaDoor.Lift

namespace Go.Proofs.YtgfjcbofbbcnmaaDoor.Lift
set_option linter.unusedSimpArgs false
set_option linter.unusedVariables false
set_option linter.unnecessarySimpa false
open Go
variable {gl : Globs}

/-- several ways lead to one state, at a place that the first way tells -/
theorem W_cutX {X : Ctx} {k kk : List Item} {s : St} (S : St) (h1 : W X kk S → W X k s) (h2 : W X kk S) : W X k s := h1 h2

theorem ref02_var_ok (i : Int) : Con1 Tryd.prog gl 29 [dint i] [] (Tm.mk 1 i (Ty.mk 0 []) []).dv [] := by
  refine t_in Tryd.func29 ?_
  intro X hP hgl hf hfn hn hR hids hfit
  refine t_g0 ?_
  refine t_r ?_
  simp [go_sem, hP, hgl, hn] <;> (try omega)
  all_goals exact t_f

end Go.Proofs.YtgfjcbofbbcnmaaDoor.Lift

namespace Go.Proofs.YtgfjcbofbbcnmaaDoor.Lift
set_option linter.unusedSimpArgs false
set_option linter.unusedVariables false
set_option linter.unnecessarySimpa false
open Go
variable {gl : Globs}

def appT (f a : Tm) : Tm := Tm.mk 3 0 (Ty.mk 0 []) [f, a]

theorem ref02_t_ok (k : Int) (s : Ty) (l : List Tm) : Con1 Tryd.prog gl 31 [dint k, s.dv, .sl (l.map Tm.cells)] [] (Tm.mk k 0 s l).dv [] := by
  refine t_in Tryd.func31 ?_
  intro X hP hgl hf hfn hn hR hids hfit
  refine t_g0 ?_
  refine t_c1 trivial (ref02_n_ok k l) ?_
  refine t_g0 ?_
  refine t_c1 trivial (ref01_copy_ok s) ?_
  refine t_g0 ?_
  refine t_r ?_
  simp [go_sem, hP, hgl, hn] <;> (try omega)
  all_goals exact t_f

end Go.Proofs.YtgfjcbofbbcnmaaDoor.Lift

namespace Go.Proofs.YtgfjcbofbbcnmaaDoor.Lift
set_option linter.unusedSimpArgs false
set_option linter.unusedVariables false
set_option linter.unnecessarySimpa false
open Go
variable {gl : Globs}

def lamsT (b : Tm) (l : List Ty) : Tm := l.foldr (fun s b => Tm.mk 2 0 s [b]) b
def appsT (f : Tm) (l : List Tm) : Tm := l.foldl appT f
theorem appsT_snoc (f : Tm) (l : List Tm) (x : Tm) : appsT f (l ++ [x]) = appT (appsT f l) x := by simp [appsT]
theorem appsT_nil (f : Tm) : appsT f [] = f := rfl
theorem mk_app_ok (f : Tm) (l : List Tm) : Con1 Tryd.prog gl 35 [f.dv, .sl (l.map Tm.cells)] [] (appsT f l).dv [] := by
  refine t_in Tryd.func35 ?_
  intro X hP hgl hf hfn hn hR hids hfit
  have hlen := sl_len (hfit (.sl (l.map Tm.cells)) (by simp))
  simp only [List.length_map] at hlen
  refine t_g0 ?_
  refine t_a ?_
  refine t_sub [] @appsT_nil (W_list (l) (fun done rest => [(.slot 9, .one (.v (dint done.length))), (.slot 8, .one (.v (dint l.length))), (.slot 7, .one (.v (.sl (l.map Tm.cells)))), (.loc 2, .row ([.v (dint (appsT f done).kind), .v (dint (appsT f done).index), .v (dint (appsT f done).type.kind), .v (.sl ((appsT f done).type.args.map Ty.cells)), .v (.sl ((appsT f done).args.map Tm.cells))])), (.slot 2, .one (.loc 2 0)), (.loc 4, .row ([.v (dint 0), .v (dint 0), .v (dint 0), .own 0 [], .own 0 []])), (.slot 4, .one (.loc 4 0))]) ?_ ?_)
  · intro done x rest hL hg0 hnext
    have hlt : done.length < l.length := by rw [hL]; simp
    refine t_rg0 ?_
    refine t_yes ?_
    refine t_g @hg0 ?_
    refine t_c1 @hg0 (ref02_n_ok 3 [appsT f done, x]) ?_
    repeat (first | (refine W_sub [] (by simp [go_sem]) (by simp [go_sem, appsT_snoc, appT, Tm.kind_mk, Tm.index_mk, Tm.type_mk, Tm.args_mk] <;> omega) (by simp [go_sem]) hnext) | refine W_seq ?_ | refine W_skip ?_ | refine W_block ?_ | refine W_inBlock ?_ | refine W_label ?_ | refine W_exit rfl ?_ | ((first | refine W_reg [] fun K hK => ?_ | refine W_regd (by rw [hP]; exact mixed) [] fun K hK => ?_); simp [go_sem, hP, hgl, hn]; (repeat (refine ⟨by omega, ?_⟩)); (first | refine hK _ ?_ | refine ⟨by rfl, hK _ ?_⟩); clear hK K) | refine W_cond rfl (fun _ => ?_) (fun hq => False.elim (by first | (simp; done) | (simp; omega) | (simp at hq; done) | (simp at hq; omega))) | refine W_cond rfl (fun hq => False.elim (by first | (simp; done) | (simp; omega) | (simp at hq; done) | (simp at hq; omega))) (fun _ => ?_))
  · refine t_rg0 ?_
    refine t_no ?_
    refine t_g0 ?_
    refine t_r ?_
    simp [go_sem, hP, hgl, hn] <;> (try omega)
    all_goals exact t_f

def vT (i : Int) : Tm := Tm.mk 1 i (Ty.mk 0 []) []
def nT (k : Int) (l : List Tm) : Tm := Tm.mk k 0 (Ty.mk 0 []) l
def recT (b s o : Tm) : Tm := Tm.mk 6 0 (Ty.mk 1 []) [b, lamsT s [Ty.mk 1 [], Ty.mk 1 []], o]
def twoT (b : Tm) : Tm := lamsT b [Ty.mk 1 [], Ty.mk 1 []]
def predT : Tm := lamsT (recT (nT 4 []) (vT 1) (vT 0)) [Ty.mk 1 []]
def plusT : Tm := twoT (recT (vT 1) (nT 5 [vT 0]) (vT 0))
def timesT : Tm := twoT (recT (nT 4 []) (appsT plusT [vT 0, vT 3]) (vT 0))
def subT : Tm := twoT (recT (vT 1) (appsT predT [vT 0]) (vT 0))
def distT : Tm := twoT (appsT plusT [appsT subT [vT 1, vT 0], appsT subT [vT 0, vT 1]])

end Go.Proofs.YtgfjcbofbbcnmaaDoor.Lift

namespace Go.Proofs.YtgfjcbofbbcnmaaDoor.Lift
set_option linter.unusedSimpArgs false
set_option linter.unusedVariables false
set_option linter.unnecessarySimpa false
open Go
variable {gl : Globs}

theorem plainD_cases (l : List Int) (p : Nat) : (plainD l p).1 = Ty.mk 1 [] ∨ (plainD l p).1 = Ty.mk 2 [] ∨ (plainD l p).1 = Ty.mk 5 [] ∨ (plainD l p).1 = Ty.mk 3 [Ty.mk 1 [], Ty.mk 2 []] ∨ (plainD l p).1 = Ty.mk 3 [Ty.mk 1 [], Ty.mk 1 []] := by
  unfold plainD
  generalize nextD l p 6 = q
  obtain ⟨k, p'⟩ := q
  simp only
  by_cases h1 : k = 0 ∨ k = 1
  · rw [if_pos h1]; simp
  · rw [if_neg h1]
    by_cases h2 : k = 2
    · rw [if_pos h2]; simp
    · rw [if_neg h2]
      by_cases h3 : k = 3
      · rw [if_pos h3]; simp
      · rw [if_neg h3]
        by_cases h4 : k = 4
        · rw [if_pos h4]; simp
        · rw [if_neg h4]; simp
theorem plainD_plain (l : List Int) (p : Nat) : (plainD l p).1.plain := by
  rcases plainD_cases l p with h | h | h | h | h <;> rw [h] <;> simp [Ty.plain, Ty.plain.plains]

theorem numsD_len (l : List Int) : ∀ (n p : Nat), (numsD l p n).1.length = n
  | 0, _ => rfl
  | n + 1, _ => by simp [numsD, numsD_len l n]
theorem numsD_bd (l : List Int) : ∀ (n p : Nat), ∀ x ∈ (numsD l p n).1, 0 ≤ x ∧ x ≤ 3
  | 0, _, x, h => by simp [numsD] at h
  | n + 1, p, x, h => by
    simp only [numsD, List.mem_cons] at h
    rcases h with rfl | h
    · have := nextD_bd (l := l) (p := p) (n := 4) (by omega); omega
    · exact numsD_bd l n _ x h

/-- the value that is made of a flat type is flat -/
theorem mkVal_flat (l : List Int) (k : Int) (h : k ≠ 3) (p : Nat) : (mkVal l (Ty.mk k []) p).1.flat := by
  rw [mkVal_eq]
  by_cases h1 : k = 1
  · rw [if_pos (show (Ty.mk k []).kind = 1 from h1)]
    have := nextD_bd (l := l) (p := p) (n := 5) (by omega)
    exact ⟨rfl, .inl ⟨rfl, this.1, by simp [Val.num]; omega, rfl⟩⟩
  · rw [if_neg (show ¬(Ty.mk k []).kind = 1 from h1)]
    by_cases h2 : k = 2
    · rw [if_pos (show (Ty.mk k []).kind = 2 from h2)]
      have := nextD_bd (l := l) (p := p) (n := 4) (by omega)
      refine ⟨rfl, .inr (.inl ⟨rfl, rfl, ?_, ?_⟩)⟩
      · simp only [Val.list]; rw [numsD_len]; omega
      · simp only [Val.list]; exact numsD_bd _ _ _
    · rw [if_neg (show ¬(Ty.mk k []).kind = 2 from h2), if_neg (show ¬(Ty.mk k []).kind = 3 from h)]
      exact ⟨rfl, .inr (.inr ⟨rfl, rfl, rfl⟩)⟩

theorem mkVal_good (l : List Int) (q p : Nat) : (mkVal l (plainD l q).1 p).1.good := by
  have pair : ∀ k m : Int, k ≠ 3 → m ≠ 3 → (mkVal l (Ty.mk 3 [Ty.mk k [], Ty.mk m []]) p).1.good := by
    intro k m hk hm
    refine .inr ⟨(mkVal l (Ty.mk k []) p).1, (mkVal l (Ty.mk m []) (mkVal l (Ty.mk k []) p).2).1, ?_, mkVal_flat l k hk _, mkVal_flat l m hm _⟩
    rw [mkVal_eq]
    simp [mkVal.mkVals, Ty.kind, Ty.args]
  rcases plainD_cases l q with h | h | h | h | h <;> rw [h]
  · exact .inl (mkVal_flat l 1 (by decide) p)
  · exact .inl (mkVal_flat l 2 (by decide) p)
  · exact .inl (mkVal_flat l 5 (by decide) p)
  · exact pair 1 2 (by decide) (by decide)
  · exact pair 1 1 (by decide) (by decide)

theorem numTm_count : ∀ n : Nat, (numTm n).count = n + 1
  | 0 => rfl
  | n + 1 => by rw [numTm, Tm.count_eq]; simp [Tm.args, Tm.count.counts, numTm_count n]; omega
theorem listTm_count : ∀ l : List Int, (∀ x ∈ l, 0 ≤ x) → ((listTm l).count : Int) = 1 + sumL l
  | [], _ => by simp [listTm, sumL, Tm.count_eq, Tm.args, Tm.count.counts]
  | x :: r, h => by
    have h1 := h x (by simp)
    have h2 := listTm_count r fun y hy => h y (by simp [hy])
    have e : listTm (x :: r) = Tm.mk 8 0 (Ty.mk 0 []) [numTm x.toNat, listTm r] := rfl
    rw [e, Tm.count_eq]
    have : sumL (x :: r) = x + 2 + sumL r := by simp [sumL]
    simp only [Tm.args, Tm.count.counts, numTm_count]
    rw [this]
    omega

theorem lenL_small : ∀ (l : List Int) (n : Int), (∀ x ∈ l, 0 ≤ x ∧ x ≤ 3) → 0 ≤ n → n + 10 * l.length ≤ 4096 → (lenL l n).2 = false ∧ (lenL l n).1 ≤ n + 10 * l.length
  | [], n, _, _, _ => by simp [lenL]
  | x :: r, n, h, h0, hn => by
    have hx := h x (by simp)
    have hs : sizeI x = x + 1 := by unfold sizeI; omega
    simp only [List.length_cons] at hn
    unfold lenL
    rw [if_neg (by omega)]
    have := lenL_small r (n + (1 + sizeI x)) (fun y hy => h y (by simp [hy])) (by omega) (by omega)
    exact ⟨this.1, by simp only [List.length_cons]; omega⟩

theorem Val.flat_facts {v : Val} (h : v.flat) : v.nodesN = (1, true) ∧ v.lengthN ≤ 100 ∧ 0 ≤ v.lengthN ∧ (v.termN.count : Int) = v.flatSize ∧ v.count = 1 ∧ v.kind ≠ 3 := by
  obtain ⟨h0, h⟩ := h
  rcases h with ⟨h1, h2, h3, h4⟩ | ⟨h1, h2, h3, h4⟩ | ⟨h1, h2, h3⟩
  · have hs : sizeI v.num = v.num + 1 := by unfold sizeI; omega
    refine ⟨?_, ?_, ?_, ?_, ?_, by omega⟩
    · rw [nodesN_eq]; simp [h0, nodesN.nodesL, okB, h1, h2, h4]
    · rw [lengthN_eq]; simp [h0, h1, lengthN.lengths]; omega
    · rw [lengthN_eq]; simp [h0, h1, lengthN.lengths]; omega
    · rw [termN_eq]; simp [h1, flatSize, numTm_count]; omega
    · rw [count_eq, h0]; rfl
  · have hl := lenL_small v.list 1 h4 (by omega) (by omega)
    refine ⟨?_, ?_, ?_, ?_, ?_, by omega⟩
    · rw [nodesN_eq]; simp [h0, nodesN.nodesL, okB, h1, h2]
      intro x hx; exact (h4 x hx).1
    · rw [lengthN_eq]; simp [h0, h1, lengthN.lengths, hl.1]; omega
    · rw [lengthN_eq]; simp [h0, h1, lengthN.lengths, hl.1]
      have := lenL_bd v.list 1 (fun x hx => (h4 x hx).1) (by decide)
      omega
    · rw [termN_eq]; simp only [h1, if_true, flatSize]; rw [listTm_count _ fun x hx => (h4 x hx).1]; simp
    · rw [count_eq, h0]; rfl
  · refine ⟨?_, ?_, ?_, ?_, ?_, by omega⟩
    · rw [nodesN_eq]; simp [h0, nodesN.nodesL, okB, h1, h2, h3]
    · rw [lengthN_eq]; simp [h0, h1, lengthN.lengths]
    · rw [lengthN_eq]; simp [h0, h1, lengthN.lengths]
    · rw [termN_eq]; simp [h1, flatSize, Tm.count_eq, Tm.args, Tm.count.counts]
    · rw [count_eq, h0]; rfl

theorem Val.good_facts {v : Val} (h : v.good) : v.termE = (v.termN, 0) ∧ (v.termN.count : Int) = (if v.kind = 3 then 1 + ((v.args.map Val.flatSize).sum) else v.flatSize) ∧ v.count ≤ 3 ∧ v.termN.count ≤ 100 := by
  rcases h with h | ⟨a, b, rfl, ha, hb⟩
  · obtain ⟨h1, h2, h3, h4, h5, h6⟩ := flat_facts h
    have := flatSize_bd h
    refine ⟨?_, by rw [if_neg h6]; exact h4, by omega, by omega⟩
    have hc : v.checkN = 0 := by simp [checkN, h1]
    simp [termE, hc]; omega
  · obtain ⟨a1, a2, a3, a4, a5, a6⟩ := flat_facts ha
    obtain ⟨b1, b2, b3, b4, b5, b6⟩ := flat_facts hb
    have q1 := flatSize_bd ha
    have q2 := flatSize_bd hb
    have hn : (Val.mk 3 0 [] [a, b]).nodesN = (3, true) := by
      rw [nodesN_eq]; simp [args, nodesN.nodesL, okB, kind, num, list, a1, b1]
    have hc : (Val.mk 3 0 [] [a, b]).checkN = 0 := by simp [checkN, hn]
    have hl : (Val.mk 3 0 [] [a, b]).lengthN = 1 + a.lengthN + b.lengthN := by
      rw [lengthN_eq]; simp [args, kind, lengthN.lengths]
    have ht : (Val.mk 3 0 [] [a, b]).termN = Tm.mk 10 0 (Ty.mk 0 []) [a.termN, b.termN] := by
      rw [termN_eq]; simp [args, kind]
    have htc : (Val.mk 3 0 [] [a, b]).termN.count = 1 + (a.termN.count + (b.termN.count + 0)) := by
      rw [ht, Tm.count_eq]; rfl
    refine ⟨?_, ?_, ?_, ?_⟩
    · simp [termE, hc, hl]; omega
    · rw [htc]; simp [kind, args]; omega
    · rw [count_eq]; simp [args, count.counts, a5, b5]
    · rw [htc]; omega
end Go.Proofs.YtgfjcbofbbcnmaaDoor.Lift

/-
  Plain facts: the terms of small values.
-/
namespace Go.Proofs.YtgfjcbofbbcnmaaDoor.Lift
set_option linter.unusedSimpArgs false
set_option linter.unusedVariables false
set_option linter.unnecessarySimpa false
open Go

theorem zty_tys : (Ty.mk 0 []).count = 1 := rfl

/-- what is known of the term of a value -/
structure TmFacts (t : Tm) (s : Ty) (v : Val) : Prop where
  shape : t.shape = true
  infer : t.inferN [] = (s, 0)
  nf : t.nf = true
  least : t.leastN 536870912 = true
  tys : t.tys
  read : t.readV = (v, true)

theorem num_shape : ∀ n : Nat, (numTm n).shape = true
  | 0 => rfl
  | n + 1 => by
    rw [numTm, Tm.shape_eq]
    simp [Tm.kind, Tm.index, Tm.type, Tm.args, Tm.shape.shapes, num_shape n, tmKind, tyOfKind, arityI, Ty.zero, Ty.kind, Ty.args]
theorem num_infer : ∀ n : Nat, (numTm n).inferN [] = (Ty.mk 1 [], 0)
  | 0 => rfl
  | n + 1 => by
    rw [numTm, Tm.inferN_eq]
    simp [Tm.kind, Tm.index, Tm.type, Tm.args, Tm.inferN.infers, num_infer n, ruleN]
    rfl
theorem num_kind : ∀ n : Nat, (numTm n).kind = 4 ∨ (numTm n).kind = 5
  | 0 => .inl rfl
  | n + 1 => .inr rfl
theorem num_nf : ∀ n : Nat, (numTm n).nf = true
  | 0 => rfl
  | n + 1 => by
    rw [numTm, Tm.nf_eq]
    simp [Tm.kind, Tm.args, Tm.nf.nfs, num_nf n, Tm.rootN]
theorem num_least : ∀ n : Nat, (numTm n).leastN 536870912 = true
  | 0 => rfl
  | n + 1 => by
    rw [numTm, Tm.leastN_eq]
    simp [Tm.index, Tm.args, Tm.leastN.leasts, num_least n]
theorem num_tys : ∀ n : Nat, (numTm n).tys
  | 0 => by rw [numTm, Tm.tys_eq]; simp [Tm.type, Tm.args, zty_tys]
  | n + 1 => by
    rw [numTm, Tm.tys_eq]
    simp [Tm.type, Tm.args, zty_tys, num_tys n]
theorem num_peel : ∀ n : Nat, (numTm n).peel = (n, 4)
  | 0 => rfl
  | n + 1 => by rw [numTm, Tm.peel_succ _ (numTm n) rfl rfl, num_peel n]
theorem num_facts (n : Nat) : TmFacts (numTm n) (Ty.mk 1 []) (Val.mk 1 n [] []) := by
  refine ⟨num_shape n, num_infer n, num_nf n, num_least n, num_tys n, ?_⟩
  rw [Tm.readV_eq, if_pos (num_kind n), num_peel]
  rfl

theorem listTm_cons (x : Int) (l : List Int) : listTm (x :: l) = Tm.mk 8 0 (Ty.mk 0 []) [numTm x.toNat, listTm l] := rfl
theorem list_facts : ∀ l : List Int, (∀ x ∈ l, 0 ≤ x) → TmFacts (listTm l) (Ty.mk 2 []) (Val.mk 2 0 l []) ∧ (listTm l).readL = some (l, 7) ∧ ((listTm l).kind = 7 ∨ (listTm l).kind = 8)
  | [], _ => ⟨⟨rfl, rfl, rfl, rfl, by rw [show listTm [] = Tm.mk 7 0 (Ty.mk 0 []) [] from rfl, Tm.tys_eq]; simp [Tm.type, Tm.args, zty_tys], rfl⟩, rfl, .inl rfl⟩
  | x :: r, h => by
    obtain ⟨hr, hl, _⟩ := list_facts r fun y hy => h y (by simp [hy])
    have hx := h x (by simp)
    have hn := num_facts x.toNat
    have hL : (listTm (x :: r)).readL = some (x :: r, 7) := by
      rw [Tm.readL_cons _ (numTm x.toNat) (listTm r) rfl rfl, num_peel, hl]
      simp; omega
    refine ⟨⟨?_, ?_, ?_, ?_, ?_, ?_⟩, hL, .inr rfl⟩
    · rw [listTm_cons, Tm.shape_eq]
      simp [Tm.kind, Tm.index, Tm.type, Tm.args, Tm.shape.shapes, hn.shape, hr.shape, tmKind, tyOfKind, arityI, Ty.zero, Ty.kind, Ty.args]
    · rw [listTm_cons, Tm.inferN_eq]
      simp [Tm.kind, Tm.index, Tm.type, Tm.args, Tm.inferN.infers, hn.infer, hr.infer, ruleN]
      decide
    · rw [listTm_cons, Tm.nf_eq]
      simp [Tm.kind, Tm.args, Tm.nf.nfs, hn.nf, hr.nf, Tm.rootN]
    · rw [listTm_cons, Tm.leastN_eq]
      simp [Tm.index, Tm.args, Tm.leastN.leasts, hn.least, hr.least]
    · rw [listTm_cons, Tm.tys_eq]
      simp [Tm.type, Tm.args, zty_tys, hn.tys, hr.tys]
    · rw [Tm.readV_eq, if_neg (by rw [listTm_cons]; simp [Tm.kind]), if_pos (.inr rfl), hL]
      simp

theorem unit_facts : TmFacts (Tm.mk 13 0 (Ty.mk 0 []) []) (Ty.mk 5 []) (Val.mk 4 0 [] []) :=
  ⟨rfl, rfl, rfl, rfl, by rw [Tm.tys_eq]; simp [Tm.type, Tm.args, zty_tys], rfl⟩

theorem pair_facts {a b : Tm} {s u : Ty} {v w : Val} (ha : TmFacts a s v) (hb : TmFacts b u w) (ho : (Ty.mk 3 [s, u]).checkN = 0) :
    TmFacts (Tm.mk 10 0 (Ty.mk 0 []) [a, b]) (Ty.mk 3 [s, u]) (Val.mk 3 0 [] [v, w]) := by
  refine ⟨?_, ?_, ?_, ?_, ?_, ?_⟩
  · rw [Tm.shape_eq]
    simp [Tm.kind, Tm.index, Tm.type, Tm.args, Tm.shape.shapes, ha.shape, hb.shape, tmKind, tyOfKind, arityI, Ty.zero, Ty.kind, Ty.args]
  · rw [Tm.inferN_eq]
    simp [Tm.kind, Tm.index, Tm.type, Tm.args, Tm.inferN.infers, ha.infer, hb.infer, ruleN, okN, ho]
  · rw [Tm.nf_eq]
    simp [Tm.kind, Tm.args, Tm.nf.nfs, ha.nf, hb.nf, Tm.rootN]
  · rw [Tm.leastN_eq]
    simp [Tm.index, Tm.args, Tm.leastN.leasts, ha.least, hb.least]
  · rw [Tm.tys_eq]
    simp [Tm.type, Tm.args, zty_tys, ha.tys, hb.tys]
  · rw [Tm.readV_eq]
    simp [Tm.kind, Tm.args, Tm.readV.reads, ha.read, hb.read]

theorem flat_tm {v : Val} (h : v.flat) : TmFacts v.termN v.tyN v ∧ (v.tyN = Ty.mk 1 [] ∨ v.tyN = Ty.mk 2 [] ∨ v.tyN = Ty.mk 5 []) := by
  obtain ⟨h0, h⟩ := h
  cases v with
  | mk k n l a =>
  simp only [Val.args, Val.kind, Val.num, Val.list] at h0 h
  subst h0
  rcases h with ⟨rfl, h2, h3, rfl⟩ | ⟨rfl, rfl, h3, h4⟩ | ⟨rfl, rfl, rfl⟩
  · have := num_facts n.toNat
    have e : ((n.toNat : Nat) : Int) = n := by omega
    rw [e] at this
    rw [Val.termN_eq, Val.tyN_eq]
    exact ⟨by simpa [Val.kind, Val.num, Val.list] using this, by simp [Val.kind]⟩
  · have := (list_facts l fun x hx => (h4 x hx).1).1
    rw [Val.termN_eq, Val.tyN_eq]
    exact ⟨by simpa [Val.kind, Val.num, Val.list] using this, by simp [Val.kind]⟩
  · rw [Val.termN_eq, Val.tyN_eq]
    exact ⟨by simpa [Val.kind, Val.num, Val.list] using unit_facts, by simp [Val.kind]⟩

theorem good_tm {v : Val} (h : v.good) : TmFacts v.termN v.tyN v := by
  rcases h with h | ⟨a, b, rfl, ha, hb⟩
  · exact (flat_tm h).1
  · obtain ⟨fa, ta⟩ := flat_tm ha
    obtain ⟨fb, tb⟩ := flat_tm hb
    have e1 : (Val.mk 3 0 [] [a, b]).termN = Tm.mk 10 0 (Ty.mk 0 []) [a.termN, b.termN] := by rw [Val.termN_eq]; simp [Val.args, Val.kind]
    have e2 : (Val.mk 3 0 [] [a, b]).tyN = Ty.mk 3 [a.tyN, b.tyN] := by rw [Val.tyN_eq]; simp [Val.args, Val.kind]
    rw [e1, e2]
    refine pair_facts fa fb ?_
    rcases ta with ta | ta | ta <;> rcases tb with tb | tb | tb <;> rw [ta, tb] <;> rfl

/-- a value that is made of a type has that type -/
theorem mkVal_tyF (l : List Int) (k : Int) (h : k = 1 ∨ k = 2 ∨ k = 5) (p : Nat) : (mkVal l (Ty.mk k []) p).1.tyN = Ty.mk k [] := by
  rw [mkVal_eq, Val.tyN_eq]
  rcases h with rfl | rfl | rfl <;> simp [Ty.kind, Val.kind]

theorem mkVal_ty (l : List Int) (q p : Nat) : (mkVal l (plainD l q).1 p).1.tyN = (plainD l q).1 := by
  have pair : ∀ k m : Int, (k = 1 ∨ k = 2 ∨ k = 5) → (m = 1 ∨ m = 2 ∨ m = 5) → (mkVal l (Ty.mk 3 [Ty.mk k [], Ty.mk m []]) p).1.tyN = Ty.mk 3 [Ty.mk k [], Ty.mk m []] := by
    intro k m hk hm
    have e : (mkVal l (Ty.mk 3 [Ty.mk k [], Ty.mk m []]) p).1 = Val.mk 3 0 [] [(mkVal l (Ty.mk k []) p).1, (mkVal l (Ty.mk m []) (mkVal l (Ty.mk k []) p).2).1] := by
      rw [mkVal_eq]
      simp [mkVal.mkVals, Ty.kind, Ty.args]
    rw [e, Val.tyN_eq]
    simp [Val.kind, Val.args, mkVal_tyF l k hk, mkVal_tyF l m hm]
  rcases plainD_cases l q with h | h | h | h | h <;> rw [h]
  · exact mkVal_tyF l 1 (by decide) p
  · exact mkVal_tyF l 2 (by decide) p
  · exact mkVal_tyF l 5 (by decide) p
  · exact pair 1 2 (by decide) (by decide)
  · exact pair 1 1 (by decide) (by decide)

end Go.Proofs.YtgfjcbofbbcnmaaDoor.Lift

/-
  Plain law: what typed terms denote.
-/
namespace Go.Proofs.YtgfjcbofbbcnmaaDoor.Lift
set_option linter.unusedSimpArgs false
set_option linter.unusedVariables false
set_option linter.unnecessarySimpa false
open Go

/-- simple types -/
inductive T where
  | nat | list | unit
  | pair (a b : T)
  | fn (a b : T)
  deriving DecidableEq
namespace T
set_option linter.unusedSimpArgs false
set_option linter.unusedVariables false
set_option linter.unnecessarySimpa false
def ty : T → Ty
  | nat => Ty.mk 1 []
  | list => Ty.mk 2 []
  | unit => Ty.mk 5 []
  | pair a b => Ty.mk 3 [a.ty, b.ty]
  | fn a b => Ty.mk 4 [a.ty, b.ty]
/-- the values of a type -/
def V : T → Type
  | nat => Nat
  | list => List Nat
  | unit => Unit
  | pair a b => a.V × b.V
  | fn a b => a.V → b.V
def size : T → Nat
  | nat => 1
  | list => 1
  | unit => 1
  | pair a b => 1 + a.size + b.size
  | fn a b => 1 + a.size + b.size
theorem ty_count (a : T) : a.ty.count = a.size := by
  induction a with
  | nat => rfl
  | list => rfl
  | unit => rfl
  | pair a b iha ihb => show 1 + (a.ty.count + (b.ty.count + 0)) = _; simp only [size]; omega
  | fn a b iha ihb => show 1 + (a.ty.count + (b.ty.count + 0)) = _; simp only [size]; omega
theorem ty_shape (a : T) : a.ty.shape = true := by
  induction a with
  | nat => rfl
  | list => rfl
  | unit => rfl
  | pair a b iha ihb => simp [ty, Ty.shape, Ty.shape.shapes, tyKind, iha, ihb]
  | fn a b iha ihb => simp [ty, Ty.shape, Ty.shape.shapes, tyKind, iha, ihb]
/-- small enough to be written -/
def ok (a : T) : Prop := a.size ≤ 64
theorem ok_ty {a : T} (h : a.ok) : a.ty.ok := ⟨a.ty_shape, by rw [ty_count]; exact h⟩
theorem of_shape (s : Ty) (h : s.shape = true) : ∃ a : T, a.ty = s := by
  induction s using Ty.ind with
  | h s ih =>
  cases s with
  | mk k ts =>
    have h1 := h
    rw [Ty.shape_eq, Bool.and_eq_true, Ty.shapes_iff] at h1
    obtain ⟨h2, h3⟩ := h1
    unfold tyKind at h2
    simp [Ty.kind, Ty.args] at h2
    rcases h2 with ⟨h2, rfl⟩ | ⟨h2, h4⟩
    · rcases of_decide_eq_true h2 with rfl | rfl | rfl
      · exact ⟨nat, rfl⟩
      · exact ⟨list, rfl⟩
      · exact ⟨unit, rfl⟩
    · match ts, h4, ih, h3 with
      | [x, y], _, ih, h3 =>
        obtain ⟨a, rfl⟩ := ih x (by simp [Ty.args]) (h3 x (by simp [Ty.args]))
        obtain ⟨b, rfl⟩ := ih y (by simp [Ty.args]) (h3 y (by simp [Ty.args]))
        rcases of_decide_eq_true h2 with rfl | rfl
        · exact ⟨pair a b, rfl⟩
        · exact ⟨fn a b, rfl⟩
theorem ty_inj : ∀ {a b : T}, a.ty = b.ty → a = b := by
  intro a
  induction a with
  | nat => intro b h; cases b <;> simp [ty] at h <;> rfl
  | list => intro b h; cases b <;> simp [ty] at h <;> rfl
  | unit => intro b h; cases b <;> simp [ty] at h <;> rfl
  | pair x y ihx ihy => intro b h; cases b <;> simp [ty] at h; rw [ihx h.1, ihy h.2]
  | fn x y ihx ihy => intro b h; cases b <;> simp [ty] at h; rw [ihx h.1, ihy h.2]
end T

/-- values of variables: the last one first -/
def Env : List T → Type
  | [] => Unit
  | a :: Γ => a.V × Env Γ

/-- the variable i: its type and its value -/
inductive At : (Γ : List T) → Nat → (a : T) → (Env Γ → a.V) → Prop
  | zero {a : T} {Γ : List T} : At (a :: Γ) 0 a (fun e => e.1)
  | succ {a b : T} {Γ : List T} {i : Nat} {p : Env Γ → a.V} (h : At Γ i a p) : At (b :: Γ) (i + 1) a (fun e => p e.2)

theorem At.of : ∀ {Γ : List T} {i : Nat} {a : T}, Γ[i]? = some a → ∃ p, At Γ i a p
  | [], _, _, h => by simp at h
  | b :: Γ, 0, a, h => by simp at h; subst h; exact ⟨_, .zero⟩
  | b :: Γ, i + 1, a, h => by
    obtain ⟨p, hp⟩ := At.of (Γ := Γ) (i := i) (a := a) (by simpa using h)
    exact ⟨_, .succ hp⟩
theorem At.get {Γ : List T} {i : Nat} {a : T} {p : Env Γ → a.V} (h : At Γ i a p) : Γ[i]? = some a := by
  induction h with
  | zero => rfl
  | succ h ih => simpa using ih

def natRec {α : Type} (b : α) (f : Nat → α → α) : Nat → α
  | 0 => b
  | n + 1 => f n (natRec b f n)
def listRec {α : Type} (b : α) (f : Nat → List Nat → α → α) : List Nat → α
  | [] => b
  | x :: l => f x l (listRec b f l)

def lamT (a : T) (b : Tm) : Tm := Tm.mk 2 0 a.ty [b]

/-- a term has a type below some variables, and means a value for all of theirs -/
inductive Dn : (Γ : List T) → Tm → (a : T) → (Env Γ → a.V) → Prop
  | var {Γ : List T} {i : Nat} {a : T} {p : Env Γ → a.V} (h : At Γ i a p) : Dn Γ (vT i) a p
  | lam {Γ : List T} {a r : T} {b : Tm} {f : Env (a :: Γ) → r.V} (ha : a.ok) (h : Dn (a :: Γ) b r f) : Dn Γ (lamT a b) (.fn a r) (fun e v => f (v, e))
  | app {Γ : List T} {a b : T} {f x : Tm} {F : Env Γ → (T.fn a b).V} {X : Env Γ → a.V} (hf : Dn Γ f (.fn a b) F) (hx : Dn Γ x a X) : Dn Γ (nT 3 [f, x]) b (fun e => F e (X e))
  | zero {Γ : List T} : Dn Γ (nT 4 []) .nat (fun _ => (0 : Nat))
  | succ {Γ : List T} {x : Tm} {X : Env Γ → T.nat.V} (hx : Dn Γ x .nat X) : Dn Γ (nT 5 [x]) .nat (fun e => Nat.succ (X e))
  | rc {Γ : List T} {a : T} {b f n : Tm} {B : Env Γ → a.V} {F : Env Γ → (T.fn .nat (.fn a a)).V} {N : Env Γ → T.nat.V} (ha : a.ok) (hb : Dn Γ b a B) (hf : Dn Γ f (.fn .nat (.fn a a)) F) (hn : Dn Γ n .nat N) :
      Dn Γ (Tm.mk 6 0 a.ty [b, f, n]) a (fun e => natRec (B e) (F e) (N e))
  | nil {Γ : List T} : Dn Γ (nT 7 []) .list (fun _ => ([] : List Nat))
  | cons {Γ : List T} {x l : Tm} {X : Env Γ → T.nat.V} {L : Env Γ → T.list.V} (hx : Dn Γ x .nat X) (hl : Dn Γ l .list L) : Dn Γ (nT 8 [x, l]) .list (fun e => List.cons (X e) (L e))
  | fold {Γ : List T} {a : T} {b f n : Tm} {B : Env Γ → a.V} {F : Env Γ → (T.fn .nat (.fn .list (.fn a a))).V} {N : Env Γ → T.list.V} (ha : a.ok) (hb : Dn Γ b a B) (hf : Dn Γ f (.fn .nat (.fn .list (.fn a a))) F) (hn : Dn Γ n .list N) :
      Dn Γ (Tm.mk 9 0 a.ty [b, f, n]) a (fun e => listRec (B e) (F e) (N e))
  | pair {Γ : List T} {a b : T} {x y : Tm} {X : Env Γ → a.V} {Y : Env Γ → b.V} (hx : Dn Γ x a X) (hy : Dn Γ y b Y) : Dn Γ (nT 10 [x, y]) (.pair a b) (fun e => Prod.mk (X e) (Y e))
  | fst {Γ : List T} {a b : T} {x : Tm} {X : Env Γ → (T.pair a b).V} (hx : Dn Γ x (.pair a b) X) : Dn Γ (nT 11 [x]) a (fun e => Prod.fst (X e))
  | snd {Γ : List T} {a b : T} {x : Tm} {X : Env Γ → (T.pair a b).V} (hx : Dn Γ x (.pair a b) X) : Dn Γ (nT 12 [x]) b (fun e => Prod.snd (X e))
  | unit {Γ : List T} : Dn Γ (nT 13 []) .unit (fun _ => ())

end Go.Proofs.YtgfjcbofbbcnmaaDoor.Lift

/-
  Plain law: lifting and putting in keep what a term denotes.
-/
namespace Go.Proofs.YtgfjcbofbbcnmaaDoor.Lift
set_option linter.unusedSimpArgs false
set_option linter.unusedVariables false
set_option linter.unnecessarySimpa false
open Go

def Env.drop {Γ : List T} : (Ξ : List T) → Env (Ξ ++ Γ) → Env Γ
  | [], e => e
  | _ :: Ξ, e => Env.drop Ξ e.2
/-- the values without those of Ξ, which stand below Δ -/
def Env.wk {Γ : List T} : (Δ Ξ : List T) → Env (Δ ++ (Ξ ++ Γ)) → Env (Δ ++ Γ)
  | [], Ξ, e => Env.drop Ξ e
  | _ :: Δ, Ξ, e => (e.1, Env.wk Δ Ξ e.2)
theorem At.drop {Γ : List T} {i : Nat} {a : T} {p : Env Γ → a.V} (h : At Γ i a p) : ∀ Ξ : List T, At (Ξ ++ Γ) (i + Ξ.length) a (fun e => p (Env.drop Ξ e))
  | [] => h
  | _ :: Ξ => .succ (At.drop h Ξ)
theorem At.wk {Γ Ξ : List T} {a : T} : ∀ (Δ : List T) {i : Nat} {p : Env (Δ ++ Γ) → a.V}, At (Δ ++ Γ) i a p → At (Δ ++ (Ξ ++ Γ)) (if i < Δ.length then i else i + Ξ.length) a (fun e => p (Env.wk Δ Ξ e))
  | [], i, p, h => by rw [if_neg (by simp)]; exact At.drop h Ξ
  | b :: Δ, i, p, h => by
    cases h with
    | zero => rw [if_pos (by simp)]; exact At.zero
    | succ h =>
      rename_i j q
      have := At.succ (b := b) (At.wk (Ξ := Ξ) Δ h)
      have e : (if j + 1 < (b :: Δ).length then j + 1 else j + 1 + Ξ.length) = (if j < Δ.length then j else j + Ξ.length) + 1 := by
        simp only [List.length_cons]
        split <;> split <;> omega
      rw [e]
      exact this

/-- what is denoted may be told otherwise -/
theorem Dn.eq {Γ : List T} {t : Tm} {a : T} {F G : Env Γ → a.V} (h : Dn Γ t a F) (e : ∀ ρ, F ρ = G ρ) : Dn Γ t a G := by
  have : F = G := funext e
  rw [← this]; exact h
end Go.Proofs.YtgfjcbofbbcnmaaDoor.Lift

/-
  Plain law: the theorem of majorants, for what is denoted.
-/
namespace Go.Proofs.YtgfjcbofbbcnmaaDoor.Lift
set_option linter.unusedSimpArgs false
set_option linter.unusedVariables false
set_option linter.unnecessarySimpa false
open Go

/-- the majorant type -/
def T.maj : T → T
  | .nat => .nat
  | .list => .nat
  | .unit => .unit
  | .pair a b => .pair a.maj b.maj
  | .fn a b => .fn a.maj b.maj

/-- at least as great, in each part -/
def Ge : (b : T) → b.V → b.V → Prop
  | .nat, x, y => Nat.le y x
  | .list, x, y => x = y
  | .unit, _, _ => True
  | .pair a b, x, y => Ge a x.1 y.1 ∧ Ge b x.2 y.2
  | .fn a b, F, G => (∀ x y : a.V, Ge a x y → Ge b (F x) (G y)) ∧ ∀ x y : a.V, Ge a x y → Ge b (F x) (F y)
/-- a value bounds another one -/
def Mj : (a : T) → a.maj.V → a.V → Prop
  | .nat, m, n => Nat.le n m
  | .list, m, l => Nat.le (List.length l) m ∧ ∀ x : Nat, List.Mem x l → Nat.le x m
  | .unit, _, _ => True
  | .pair a b, x, y => Mj a x.1 y.1 ∧ Mj b x.2 y.2
  | .fn a b, F, f => (∀ (X : a.maj.V) (x : a.V), Mj a X x → Mj b (F X) (f x)) ∧ ∀ X Y : a.maj.V, Ge a.maj X Y → Ge b.maj (F X) (F Y)

theorem Ge.left : ∀ {b : T} {x y : b.V}, Ge b x y → Ge b x x
  | .nat, x, _, _ => Nat.le_refl x
  | .list, _, _, _ => rfl
  | .unit, _, _, _ => trivial
  | .pair _ _, _, _, h => ⟨Ge.left h.1, Ge.left h.2⟩
  | .fn _ _, _, _, h => ⟨h.2, h.2⟩
theorem Ge.trans : ∀ {b : T} {x y z : b.V}, Ge b x y → Ge b y z → Ge b x z
  | .nat, _, _, _, h, k => Nat.le_trans k h
  | .list, _, _, _, h, k => Eq.trans h k
  | .unit, _, _, _, _, _ => trivial
  | .pair _ _, _, _, _, h, k => ⟨Ge.trans h.1 k.1, Ge.trans h.2 k.2⟩
  | .fn _ _, _, _, _, h, k => ⟨fun x y hxy => Ge.trans (h.1 x x hxy.left) (k.1 x y hxy), h.2⟩
theorem Mj.left : ∀ {a : T} {X : a.maj.V} {x : a.V}, Mj a X x → Ge a.maj X X
  | .nat, X, _, _ => Nat.le_refl X
  | .list, X, _, _ => Nat.le_refl X
  | .unit, _, _, _ => trivial
  | .pair _ _, _, _, h => ⟨Mj.left h.1, Mj.left h.2⟩
  | .fn _ _, _, _, h => ⟨h.2, h.2⟩
theorem nat_ok0 : T.nat.ok := by unfold T.ok; decide
/-- the values of variables, bounded -/
def MjE : (Γ : List T) → Env (Γ.map T.maj) → Env Γ → Prop
  | [], _, _ => True
  | a :: Γ, X, x => Mj a X.1 x.1 ∧ MjE Γ X.2 x.2
def GeE : (Γ : List T) → Env Γ → Env Γ → Prop
  | [], _, _ => True
  | a :: Γ, X, x => Ge a X.1 x.1 ∧ GeE Γ X.2 x.2
theorem GeE.drop {Γ : List T} : ∀ (Ξ : List T) {X Y : Env (Ξ ++ Γ)}, GeE (Ξ ++ Γ) X Y → GeE Γ (Env.drop Ξ X) (Env.drop Ξ Y)
  | [], _, _, h => h
  | _ :: Ξ, _, _, h => GeE.drop Ξ h.2

/-! the closed terms of chapter 5 -/
theorem dn_pred (Γ : List T) : Dn Γ predT (.fn .nat .nat) (fun _ (n : Nat) => Nat.pred n) := by
  have h : Dn Γ predT (.fn .nat .nat) _ := .lam nat_ok0 (.rc (a := .nat) nat_ok0 .zero (.lam nat_ok0 (.lam nat_ok0 (.var (.succ .zero)))) (.var .zero))
  refine h.eq fun ρ => funext fun n => ?_
  have key : ∀ n : Nat, natRec (0 : Nat) (fun k _ => k) n = Nat.pred n := by intro n; cases n <;> rfl
  exact key n
theorem dn_plus (Γ : List T) : Dn Γ plusT (.fn .nat (.fn .nat .nat)) (fun _ (m n : Nat) => Nat.add m n) := by
  have h : Dn Γ plusT (.fn .nat (.fn .nat .nat)) _ := .lam nat_ok0 (.lam nat_ok0 (.rc (a := .nat) nat_ok0 (.var (.succ .zero)) (.lam nat_ok0 (.lam nat_ok0 (.succ (.var .zero)))) (.var .zero)))
  refine h.eq fun ρ => funext fun m => funext fun n => ?_
  have key : ∀ n : Nat, natRec (α := Nat) m (fun _ r => Nat.succ r) n = Nat.add m n := by
    intro n
    induction n with
    | zero => rfl
    | succ n ih => simp only [natRec, ih]; rfl
  exact key n
theorem dn_sub (Γ : List T) : Dn Γ subT (.fn .nat (.fn .nat .nat)) (fun _ (m n : Nat) => Nat.sub m n) := by
  have h : Dn Γ subT (.fn .nat (.fn .nat .nat)) _ := .lam nat_ok0 (.lam nat_ok0 (.rc (a := .nat) nat_ok0 (.var (.succ .zero)) (.lam nat_ok0 (.lam nat_ok0 (.app (dn_pred _) (.var .zero)))) (.var .zero)))
  refine h.eq fun ρ => funext fun m => funext fun n => ?_
  have key : ∀ n : Nat, natRec (α := Nat) m (fun _ r => Nat.pred r) n = Nat.sub m n := by
    intro n
    induction n with
    | zero => rfl
    | succ n ih => simp only [natRec, ih]; rfl
  exact key n

theorem MjE.left : ∀ {Γ : List T} {X : Env (Γ.map T.maj)} {x : Env Γ}, MjE Γ X x → GeE (Γ.map T.maj) X X
  | [], _, _, _ => trivial
  | _ :: _, _, _, h => ⟨Mj.left h.1, MjE.left h.2⟩
theorem GeE.left : ∀ {Γ : List T} {X Y : Env Γ}, GeE Γ X Y → GeE Γ X X
  | [], _, _, _ => trivial
  | _ :: _, _, _, h => ⟨Ge.left h.1, GeE.left h.2⟩

end Go.Proofs.YtgfjcbofbbcnmaaDoor.Lift

