import Derived.Test.YtcldnfbcbkaanaaGreatDoorQ2
import Derived.Test.YtcldnfbcbkaanaaGreatDoorProg
/-
  Facts of the seat's types, printed by a program: each is proved by reckoning.
-/
namespace Go.Proofs.YtcldnfbcbkaanaaGreatDoor.Lift
set_option linter.unusedVariables false
open Go

theorem mixed : Tryz.prog.follows .mixedOrders = true := by kernel_rfl
-- 0: ()
theorem lay0 : layT Tryz.prog 0 = some (false, 1) := by kernel_rfl
theorem con0 : concT Tryz.prog 0 = true := by kernel_rfl
-- 1: func()
theorem lay1 : layT Tryz.prog 1 = some (false, 1) := by kernel_rfl
theorem zer1 : zeroT Tryz.prog 1 = some [.v (.prim .nilFunc)] := by kernel_rfl
theorem con1 : concT Tryz.prog 1 = true := by kernel_rfl
-- 2: int64
theorem lay2 : layT Tryz.prog 2 = some (false, 1) := by kernel_rfl
theorem zer2 : zeroT Tryz.prog 2 = some [.v (.prim (.int .i64 (0)))] := by kernel_rfl
theorem zrp2 : zeroP Tryz.prog 2 = some (.int .i64 (0)) := by kernel_rfl
theorem con2 : concT Tryz.prog 2 = true := by kernel_rfl
theorem int2 : intT Tryz.prog 2 = some .i64 := by kernel_rfl
-- 3: int
theorem lay3 : layT Tryz.prog 3 = some (false, 1) := by kernel_rfl
theorem zer3 : zeroT Tryz.prog 3 = some [.v (.prim (.int .i64 (0)))] := by kernel_rfl
theorem zrp3 : zeroP Tryz.prog 3 = some (.int .i64 (0)) := by kernel_rfl
theorem con3 : concT Tryz.prog 3 = true := by kernel_rfl
theorem int3 : intT Tryz.prog 3 = some .i64 := by kernel_rfl
-- 4: bool
theorem lay4 : layT Tryz.prog 4 = some (false, 1) := by kernel_rfl
theorem zer4 : zeroT Tryz.prog 4 = some [.v (.prim (.bool false))] := by kernel_rfl
theorem boo4 : boolT Tryz.prog 4 = true := by kernel_rfl
theorem con4 : concT Tryz.prog 4 = true := by kernel_rfl
-- 5: uint8
theorem lay5 : layT Tryz.prog 5 = some (false, 1) := by kernel_rfl
theorem zer5 : zeroT Tryz.prog 5 = some [.v (.prim (.int .u8 (0)))] := by kernel_rfl
theorem zrp5 : zeroP Tryz.prog 5 = some (.int .u8 (0)) := by kernel_rfl
theorem con5 : concT Tryz.prog 5 = true := by kernel_rfl
theorem int5 : intT Tryz.prog 5 = some .u8 := by kernel_rfl
-- 6: abi.BoundsErrorCode
theorem lay6 : layT Tryz.prog 6 = some (false, 1) := by kernel_rfl
theorem zer6 : zeroT Tryz.prog 6 = some [.v (.prim (.int .u8 (0)))] := by kernel_rfl
theorem zrp6 : zeroP Tryz.prog 6 = some (.int .u8 (0)) := by kernel_rfl
theorem con6 : concT Tryz.prog 6 = true := by kernel_rfl
theorem int6 : intT Tryz.prog 6 = some .u8 := by kernel_rfl
-- 7: struct { x int64; y int; signed bool; code abi.BoundsErrorCode }
theorem lay7 : layT Tryz.prog 7 = some (true, 4) := by kernel_rfl
theorem zer7 : zeroT Tryz.prog 7 = some [.v (.prim (.int .i64 (0))), .v (.prim (.int .i64 (0))), .v (.prim (.bool false)), .v (.prim (.int .u8 (0)))] := by kernel_rfl
theorem pla7 : placesT Tryz.prog 7 = some [(0, 1), (1, 1), (2, 1), (3, 1)] := by kernel_rfl
theorem con7 : concT Tryz.prog 7 = true := by kernel_rfl
theorem fld7_0 : fieldT Tryz.prog 7 0 = some (false, 0, 1) := by kernel_rfl
theorem fld7_1 : fieldT Tryz.prog 7 1 = some (false, 1, 1) := by kernel_rfl
theorem fld7_2 : fieldT Tryz.prog 7 2 = some (false, 2, 1) := by kernel_rfl
theorem fld7_3 : fieldT Tryz.prog 7 3 = some (false, 3, 1) := by kernel_rfl
-- 8: runtime.boundsError
theorem lay8 : layT Tryz.prog 8 = some (true, 4) := by kernel_rfl
theorem zer8 : zeroT Tryz.prog 8 = some [.v (.prim (.int .i64 (0))), .v (.prim (.int .i64 (0))), .v (.prim (.bool false)), .v (.prim (.int .u8 (0)))] := by kernel_rfl
theorem pla8 : placesT Tryz.prog 8 = some [(0, 1), (1, 1), (2, 1), (3, 1)] := by kernel_rfl
theorem con8 : concT Tryz.prog 8 = true := by kernel_rfl
theorem fld8_0 : fieldT Tryz.prog 8 0 = some (false, 0, 1) := by kernel_rfl
theorem fld8_1 : fieldT Tryz.prog 8 1 = some (false, 1, 1) := by kernel_rfl
theorem fld8_2 : fieldT Tryz.prog 8 2 = some (false, 2, 1) := by kernel_rfl
theorem fld8_3 : fieldT Tryz.prog 8 3 = some (false, 3, 1) := by kernel_rfl
-- 9: string
theorem lay9 : layT Tryz.prog 9 = some (false, 1) := by kernel_rfl
theorem zer9 : zeroT Tryz.prog 9 = some [.v (.prim (.string ByteArray.empty))] := by kernel_rfl
theorem con9 : concT Tryz.prog 9 = true := by kernel_rfl
-- 10: runtime.errorString
theorem lay10 : layT Tryz.prog 10 = some (false, 1) := by kernel_rfl
theorem zer10 : zeroT Tryz.prog 10 = some [.v (.prim (.string ByteArray.empty))] := by kernel_rfl
theorem con10 : concT Tryz.prog 10 = true := by kernel_rfl
-- 11: runtime.plainError
theorem lay11 : layT Tryz.prog 11 = some (false, 1) := by kernel_rfl
theorem zer11 : zeroT Tryz.prog 11 = some [.v (.prim (.string ByteArray.empty))] := by kernel_rfl
theorem con11 : concT Tryz.prog 11 = true := by kernel_rfl
-- 12: uintptr
theorem lay12 : layT Tryz.prog 12 = some (false, 1) := by kernel_rfl
theorem zer12 : zeroT Tryz.prog 12 = some [.v (.prim (.int .u64 (0)))] := by kernel_rfl
theorem zrp12 : zeroP Tryz.prog 12 = some (.int .u64 (0)) := by kernel_rfl
theorem con12 : concT Tryz.prog 12 = true := by kernel_rfl
theorem int12 : intT Tryz.prog 12 = some .u64 := by kernel_rfl
-- 13: struct { msg string; addr uintptr }
theorem lay13 : layT Tryz.prog 13 = some (true, 2) := by kernel_rfl
theorem zer13 : zeroT Tryz.prog 13 = some [.v (.prim (.string ByteArray.empty)), .v (.prim (.int .u64 (0)))] := by kernel_rfl
theorem pla13 : placesT Tryz.prog 13 = some [(0, 1), (1, 1)] := by kernel_rfl
theorem con13 : concT Tryz.prog 13 = true := by kernel_rfl
theorem fld13_0 : fieldT Tryz.prog 13 0 = some (false, 0, 1) := by kernel_rfl
theorem fld13_1 : fieldT Tryz.prog 13 1 = some (false, 1, 1) := by kernel_rfl
-- 14: runtime.errorAddressString
theorem lay14 : layT Tryz.prog 14 = some (true, 2) := by kernel_rfl
theorem zer14 : zeroT Tryz.prog 14 = some [.v (.prim (.string ByteArray.empty)), .v (.prim (.int .u64 (0)))] := by kernel_rfl
theorem pla14 : placesT Tryz.prog 14 = some [(0, 1), (1, 1)] := by kernel_rfl
theorem con14 : concT Tryz.prog 14 = true := by kernel_rfl
theorem fld14_0 : fieldT Tryz.prog 14 0 = some (false, 0, 1) := by kernel_rfl
theorem fld14_1 : fieldT Tryz.prog 14 1 = some (false, 1, 1) := by kernel_rfl
-- 15: *runtime.TypeAssertionError
theorem lay15 : layT Tryz.prog 15 = some (false, 1) := by kernel_rfl
theorem zer15 : zeroT Tryz.prog 15 = some [.v (.prim (.pointer none))] := by kernel_rfl
theorem ptr15 : ptrT Tryz.prog 15 = true := by kernel_rfl
theorem zrp15 : zeroP Tryz.prog 15 = some (.pointer none) := by kernel_rfl
theorem con15 : concT Tryz.prog 15 = true := by kernel_rfl
-- 16: *runtime.PanicNilError
theorem lay16 : layT Tryz.prog 16 = some (false, 1) := by kernel_rfl
theorem zer16 : zeroT Tryz.prog 16 = some [.v (.prim (.pointer none))] := by kernel_rfl
theorem ptr16 : ptrT Tryz.prog 16 = true := by kernel_rfl
theorem zrp16 : zeroP Tryz.prog 16 = some (.pointer none) := by kernel_rfl
theorem con16 : concT Tryz.prog 16 = true := by kernel_rfl
-- 17: *abi.Type
theorem lay17 : layT Tryz.prog 17 = some (false, 1) := by kernel_rfl
theorem zer17 : zeroT Tryz.prog 17 = some [.v (.prim (.pointer none))] := by kernel_rfl
theorem ptr17 : ptrT Tryz.prog 17 = true := by kernel_rfl
theorem zrp17 : zeroP Tryz.prog 17 = some (.pointer none) := by kernel_rfl
theorem con17 : concT Tryz.prog 17 = true := by kernel_rfl
-- 18: struct { typ *abi.Type }
theorem lay18 : layT Tryz.prog 18 = some (true, 1) := by kernel_rfl
theorem zer18 : zeroT Tryz.prog 18 = some [.v (.prim (.pointer none))] := by kernel_rfl
theorem pla18 : placesT Tryz.prog 18 = some [(0, 1)] := by kernel_rfl
theorem con18 : concT Tryz.prog 18 = true := by kernel_rfl
theorem fld18_0 : fieldT Tryz.prog 18 0 = some (false, 0, 1) := by kernel_rfl
-- 19: maps.unhashableTypeError
theorem lay19 : layT Tryz.prog 19 = some (true, 1) := by kernel_rfl
theorem zer19 : zeroT Tryz.prog 19 = some [.v (.prim (.pointer none))] := by kernel_rfl
theorem pla19 : placesT Tryz.prog 19 = some [(0, 1)] := by kernel_rfl
theorem con19 : concT Tryz.prog 19 = true := by kernel_rfl
theorem fld19_0 : fieldT Tryz.prog 19 0 = some (false, 0, 1) := by kernel_rfl
-- 20: interface {}
theorem lay20 : layT Tryz.prog 20 = some (false, 1) := by kernel_rfl
theorem zer20 : zeroT Tryz.prog 20 = some [.v (.prim .nilIface)] := by kernel_rfl
-- 21: int32
theorem lay21 : layT Tryz.prog 21 = some (false, 1) := by kernel_rfl
theorem zer21 : zeroT Tryz.prog 21 = some [.v (.prim (.int .i32 (0)))] := by kernel_rfl
theorem zrp21 : zeroP Tryz.prog 21 = some (.int .i32 (0)) := by kernel_rfl
theorem con21 : concT Tryz.prog 21 = true := by kernel_rfl
theorem int21 : intT Tryz.prog 21 = some .i32 := by kernel_rfl
-- 22: []int
theorem lay22 : layT Tryz.prog 22 = some (false, 1) := by kernel_rfl
theorem zer22 : zeroT Tryz.prog 22 = some [.own 0 []] := by kernel_rfl
theorem ele22 : elemT Tryz.prog 22 = some 1 := by kernel_rfl
theorem elz22 : elemZ Tryz.prog 22 = some (1, 8) := by kernel_rfl
theorem con22 : concT Tryz.prog 22 = true := by kernel_rfl
-- 23: func() bool
theorem lay23 : layT Tryz.prog 23 = some (false, 1) := by kernel_rfl
theorem zer23 : zeroT Tryz.prog 23 = some [.v (.prim .nilFunc)] := by kernel_rfl
theorem con23 : concT Tryz.prog 23 = true := by kernel_rfl
-- 24: func([]int) bool
theorem lay24 : layT Tryz.prog 24 = some (false, 1) := by kernel_rfl
theorem zer24 : zeroT Tryz.prog 24 = some [.v (.prim .nilFunc)] := by kernel_rfl
theorem con24 : concT Tryz.prog 24 = true := by kernel_rfl
-- 25: []api.Type
theorem lay25 : layT Tryz.prog 25 = some (false, 1) := by kernel_rfl
theorem zer25 : zeroT Tryz.prog 25 = some [.own 0 []] := by kernel_rfl
theorem ele25 : elemT Tryz.prog 25 = some 2 := by kernel_rfl
theorem elz25 : elemZ Tryz.prog 25 = some (2, 32) := by kernel_rfl
theorem con25 : concT Tryz.prog 25 = true := by kernel_rfl
-- 26: struct { Kind int; Args []api.Type }
theorem lay26 : layT Tryz.prog 26 = some (true, 2) := by kernel_rfl
theorem zer26 : zeroT Tryz.prog 26 = some [.v (.prim (.int .i64 (0))), .own 0 []] := by kernel_rfl
theorem pla26 : placesT Tryz.prog 26 = some [(0, 1), (1, 1)] := by kernel_rfl
theorem con26 : concT Tryz.prog 26 = true := by kernel_rfl
theorem fld26_0 : fieldT Tryz.prog 26 0 = some (false, 0, 1) := by kernel_rfl
theorem fld26_1 : fieldT Tryz.prog 26 1 = some (false, 1, 1) := by kernel_rfl
-- 27: api.Type
theorem lay27 : layT Tryz.prog 27 = some (true, 2) := by kernel_rfl
theorem zer27 : zeroT Tryz.prog 27 = some [.v (.prim (.int .i64 (0))), .own 0 []] := by kernel_rfl
theorem pla27 : placesT Tryz.prog 27 = some [(0, 1), (1, 1)] := by kernel_rfl
theorem con27 : concT Tryz.prog 27 = true := by kernel_rfl
theorem fld27_0 : fieldT Tryz.prog 27 0 = some (false, 0, 1) := by kernel_rfl
theorem fld27_1 : fieldT Tryz.prog 27 1 = some (false, 1, 1) := by kernel_rfl
-- 28: []api.Term
theorem lay28 : layT Tryz.prog 28 = some (false, 1) := by kernel_rfl
theorem zer28 : zeroT Tryz.prog 28 = some [.own 0 []] := by kernel_rfl
theorem ele28 : elemT Tryz.prog 28 = some 5 := by kernel_rfl
theorem elz28 : elemZ Tryz.prog 28 = some (5, 72) := by kernel_rfl
theorem con28 : concT Tryz.prog 28 = true := by kernel_rfl
-- 29: struct { Kind int; Index int; Type api.Type; Args []api.Term }
theorem lay29 : layT Tryz.prog 29 = some (true, 5) := by kernel_rfl
theorem zer29 : zeroT Tryz.prog 29 = some [.v (.prim (.int .i64 (0))), .v (.prim (.int .i64 (0))), .v (.prim (.int .i64 (0))), .own 0 [], .own 0 []] := by kernel_rfl
theorem pla29 : placesT Tryz.prog 29 = some [(0, 1), (1, 1), (2, 2), (4, 1)] := by kernel_rfl
theorem con29 : concT Tryz.prog 29 = true := by kernel_rfl
theorem fld29_0 : fieldT Tryz.prog 29 0 = some (false, 0, 1) := by kernel_rfl
theorem fld29_1 : fieldT Tryz.prog 29 1 = some (false, 1, 1) := by kernel_rfl
theorem fld29_2 : fieldT Tryz.prog 29 2 = some (true, 2, 2) := by kernel_rfl
theorem fld29_3 : fieldT Tryz.prog 29 3 = some (false, 4, 1) := by kernel_rfl
-- 30: api.Term
theorem lay30 : layT Tryz.prog 30 = some (true, 5) := by kernel_rfl
theorem zer30 : zeroT Tryz.prog 30 = some [.v (.prim (.int .i64 (0))), .v (.prim (.int .i64 (0))), .v (.prim (.int .i64 (0))), .own 0 [], .own 0 []] := by kernel_rfl
theorem pla30 : placesT Tryz.prog 30 = some [(0, 1), (1, 1), (2, 2), (4, 1)] := by kernel_rfl
theorem con30 : concT Tryz.prog 30 = true := by kernel_rfl
theorem fld30_0 : fieldT Tryz.prog 30 0 = some (false, 0, 1) := by kernel_rfl
theorem fld30_1 : fieldT Tryz.prog 30 1 = some (false, 1, 1) := by kernel_rfl
theorem fld30_2 : fieldT Tryz.prog 30 2 = some (true, 2, 2) := by kernel_rfl
theorem fld30_3 : fieldT Tryz.prog 30 3 = some (false, 4, 1) := by kernel_rfl
-- 31: []api.Value
theorem lay31 : layT Tryz.prog 31 = some (false, 1) := by kernel_rfl
theorem zer31 : zeroT Tryz.prog 31 = some [.own 0 []] := by kernel_rfl
theorem ele31 : elemT Tryz.prog 31 = some 4 := by kernel_rfl
theorem elz31 : elemZ Tryz.prog 31 = some (4, 64) := by kernel_rfl
theorem con31 : concT Tryz.prog 31 = true := by kernel_rfl
-- 32: (api.Term, []api.Value)
theorem lay32 : layT Tryz.prog 32 = some (false, 1) := by kernel_rfl
theorem con32 : concT Tryz.prog 32 = true := by kernel_rfl
-- 33: func(*proofprogramsmake.Deck) (api.Term, []api.Value)
theorem lay33 : layT Tryz.prog 33 = some (false, 1) := by kernel_rfl
theorem zer33 : zeroT Tryz.prog 33 = some [.v (.prim .nilFunc)] := by kernel_rfl
theorem con33 : concT Tryz.prog 33 = true := by kernel_rfl
-- 34: *proofprogramsmake.Deck
theorem lay34 : layT Tryz.prog 34 = some (false, 1) := by kernel_rfl
theorem zer34 : zeroT Tryz.prog 34 = some [.v (.prim (.pointer none))] := by kernel_rfl
theorem ptr34 : ptrT Tryz.prog 34 = true := by kernel_rfl
theorem zrp34 : zeroP Tryz.prog 34 = some (.pointer none) := by kernel_rfl
theorem con34 : concT Tryz.prog 34 = true := by kernel_rfl
-- 35: func([]int) *proofprogramsmake.Deck
theorem lay35 : layT Tryz.prog 35 = some (false, 1) := by kernel_rfl
theorem zer35 : zeroT Tryz.prog 35 = some [.v (.prim .nilFunc)] := by kernel_rfl
theorem con35 : concT Tryz.prog 35 = true := by kernel_rfl
-- 36: api.Errno
theorem lay36 : layT Tryz.prog 36 = some (false, 1) := by kernel_rfl
theorem zer36 : zeroT Tryz.prog 36 = some [.v (.prim (.int .i64 (0)))] := by kernel_rfl
theorem zrp36 : zeroP Tryz.prog 36 = some (.int .i64 (0)) := by kernel_rfl
theorem con36 : concT Tryz.prog 36 = true := by kernel_rfl
theorem int36 : intT Tryz.prog 36 = some .i64 := by kernel_rfl
-- 37: (bool, api.Errno)
theorem lay37 : layT Tryz.prog 37 = some (false, 1) := by kernel_rfl
theorem con37 : concT Tryz.prog 37 = true := by kernel_rfl
-- 38: func(api.Term, []api.Value, int) (bool, api.Errno)
theorem lay38 : layT Tryz.prog 38 = some (false, 1) := by kernel_rfl
theorem zer38 : zeroT Tryz.prog 38 = some [.v (.prim .nilFunc)] := by kernel_rfl
theorem con38 : concT Tryz.prog 38 = true := by kernel_rfl
-- 39: func(api.Errno) bool
theorem lay39 : layT Tryz.prog 39 = some (false, 1) := by kernel_rfl
theorem zer39 : zeroT Tryz.prog 39 = some [.v (.prim .nilFunc)] := by kernel_rfl
theorem con39 : concT Tryz.prog 39 = true := by kernel_rfl
-- 40: func(*proofprogramsmake.Deck) api.Term
theorem lay40 : layT Tryz.prog 40 = some (false, 1) := by kernel_rfl
theorem zer40 : zeroT Tryz.prog 40 = some [.v (.prim .nilFunc)] := by kernel_rfl
theorem con40 : concT Tryz.prog 40 = true := by kernel_rfl
-- 41: func(int) int
theorem lay41 : layT Tryz.prog 41 = some (false, 1) := by kernel_rfl
theorem zer41 : zeroT Tryz.prog 41 = some [.v (.prim .nilFunc)] := by kernel_rfl
theorem con41 : concT Tryz.prog 41 = true := by kernel_rfl
-- 42: ([]int, api.Errno)
theorem lay42 : layT Tryz.prog 42 = some (false, 1) := by kernel_rfl
theorem con42 : concT Tryz.prog 42 = true := by kernel_rfl
-- 43: func(api.Term, int, int) ([]int, api.Errno)
theorem lay43 : layT Tryz.prog 43 = some (false, 1) := by kernel_rfl
theorem zer43 : zeroT Tryz.prog 43 = some [.v (.prim .nilFunc)] := by kernel_rfl
theorem con43 : concT Tryz.prog 43 = true := by kernel_rfl
-- 44: struct { Kind int; Num int; List []int; Args []api.Value }
theorem lay44 : layT Tryz.prog 44 = some (true, 4) := by kernel_rfl
theorem zer44 : zeroT Tryz.prog 44 = some [.v (.prim (.int .i64 (0))), .v (.prim (.int .i64 (0))), .own 0 [], .own 0 []] := by kernel_rfl
theorem pla44 : placesT Tryz.prog 44 = some [(0, 1), (1, 1), (2, 1), (3, 1)] := by kernel_rfl
theorem con44 : concT Tryz.prog 44 = true := by kernel_rfl
theorem fld44_0 : fieldT Tryz.prog 44 0 = some (false, 0, 1) := by kernel_rfl
theorem fld44_1 : fieldT Tryz.prog 44 1 = some (false, 1, 1) := by kernel_rfl
theorem fld44_2 : fieldT Tryz.prog 44 2 = some (false, 2, 1) := by kernel_rfl
theorem fld44_3 : fieldT Tryz.prog 44 3 = some (false, 3, 1) := by kernel_rfl
-- 45: api.Value
theorem lay45 : layT Tryz.prog 45 = some (true, 4) := by kernel_rfl
theorem zer45 : zeroT Tryz.prog 45 = some [.v (.prim (.int .i64 (0))), .v (.prim (.int .i64 (0))), .own 0 [], .own 0 []] := by kernel_rfl
theorem pla45 : placesT Tryz.prog 45 = some [(0, 1), (1, 1), (2, 1), (3, 1)] := by kernel_rfl
theorem con45 : concT Tryz.prog 45 = true := by kernel_rfl
theorem fld45_0 : fieldT Tryz.prog 45 0 = some (false, 0, 1) := by kernel_rfl
theorem fld45_1 : fieldT Tryz.prog 45 1 = some (false, 1, 1) := by kernel_rfl
theorem fld45_2 : fieldT Tryz.prog 45 2 = some (false, 2, 1) := by kernel_rfl
theorem fld45_3 : fieldT Tryz.prog 45 3 = some (false, 3, 1) := by kernel_rfl
-- 46: (api.Value, int, api.Errno)
theorem lay46 : layT Tryz.prog 46 = some (false, 1) := by kernel_rfl
theorem con46 : concT Tryz.prog 46 = true := by kernel_rfl
-- 47: func(api.Term, []api.Value, int) (api.Value, int, api.Errno)
theorem lay47 : layT Tryz.prog 47 = some (false, 1) := by kernel_rfl
theorem zer47 : zeroT Tryz.prog 47 = some [.v (.prim .nilFunc)] := by kernel_rfl
theorem con47 : concT Tryz.prog 47 = true := by kernel_rfl
-- 48: []api.Formula
theorem lay48 : layT Tryz.prog 48 = some (false, 1) := by kernel_rfl
theorem zer48 : zeroT Tryz.prog 48 = some [.own 0 []] := by kernel_rfl
theorem ele48 : elemT Tryz.prog 48 = some 5 := by kernel_rfl
theorem elz48 : elemZ Tryz.prog 48 = some (5, 88) := by kernel_rfl
theorem con48 : concT Tryz.prog 48 = true := by kernel_rfl
-- 49: struct { Kind int; Type api.Type; Terms []api.Term; Args []api.Formula }
theorem lay49 : layT Tryz.prog 49 = some (true, 5) := by kernel_rfl
theorem zer49 : zeroT Tryz.prog 49 = some [.v (.prim (.int .i64 (0))), .v (.prim (.int .i64 (0))), .own 0 [], .own 0 [], .own 0 []] := by kernel_rfl
theorem pla49 : placesT Tryz.prog 49 = some [(0, 1), (1, 2), (3, 1), (4, 1)] := by kernel_rfl
theorem con49 : concT Tryz.prog 49 = true := by kernel_rfl
theorem fld49_0 : fieldT Tryz.prog 49 0 = some (false, 0, 1) := by kernel_rfl
theorem fld49_1 : fieldT Tryz.prog 49 1 = some (true, 1, 2) := by kernel_rfl
theorem fld49_2 : fieldT Tryz.prog 49 2 = some (false, 3, 1) := by kernel_rfl
theorem fld49_3 : fieldT Tryz.prog 49 3 = some (false, 4, 1) := by kernel_rfl
-- 50: api.Formula
theorem lay50 : layT Tryz.prog 50 = some (true, 5) := by kernel_rfl
theorem zer50 : zeroT Tryz.prog 50 = some [.v (.prim (.int .i64 (0))), .v (.prim (.int .i64 (0))), .own 0 [], .own 0 [], .own 0 []] := by kernel_rfl
theorem pla50 : placesT Tryz.prog 50 = some [(0, 1), (1, 2), (3, 1), (4, 1)] := by kernel_rfl
theorem con50 : concT Tryz.prog 50 = true := by kernel_rfl
theorem fld50_0 : fieldT Tryz.prog 50 0 = some (false, 0, 1) := by kernel_rfl
theorem fld50_1 : fieldT Tryz.prog 50 1 = some (true, 1, 2) := by kernel_rfl
theorem fld50_2 : fieldT Tryz.prog 50 2 = some (false, 3, 1) := by kernel_rfl
theorem fld50_3 : fieldT Tryz.prog 50 3 = some (false, 4, 1) := by kernel_rfl
-- 51: []api.Proof
theorem lay51 : layT Tryz.prog 51 = some (false, 1) := by kernel_rfl
theorem zer51 : zeroT Tryz.prog 51 = some [.own 0 []] := by kernel_rfl
theorem ele51 : elemT Tryz.prog 51 = some 7 := by kernel_rfl
theorem elz51 : elemZ Tryz.prog 51 = some (7, 120) := by kernel_rfl
theorem con51 : concT Tryz.prog 51 = true := by kernel_rfl
-- 52: struct { Kind int; Index int; Type api.Type; Terms []api.Term; Forms []api.Formula; Args []api.Proof }
theorem lay52 : layT Tryz.prog 52 = some (true, 7) := by kernel_rfl
theorem zer52 : zeroT Tryz.prog 52 = some [.v (.prim (.int .i64 (0))), .v (.prim (.int .i64 (0))), .v (.prim (.int .i64 (0))), .own 0 [], .own 0 [], .own 0 [], .own 0 []] := by kernel_rfl
theorem pla52 : placesT Tryz.prog 52 = some [(0, 1), (1, 1), (2, 2), (4, 1), (5, 1), (6, 1)] := by kernel_rfl
theorem con52 : concT Tryz.prog 52 = true := by kernel_rfl
theorem fld52_0 : fieldT Tryz.prog 52 0 = some (false, 0, 1) := by kernel_rfl
theorem fld52_1 : fieldT Tryz.prog 52 1 = some (false, 1, 1) := by kernel_rfl
theorem fld52_2 : fieldT Tryz.prog 52 2 = some (true, 2, 2) := by kernel_rfl
theorem fld52_3 : fieldT Tryz.prog 52 3 = some (false, 4, 1) := by kernel_rfl
theorem fld52_4 : fieldT Tryz.prog 52 4 = some (false, 5, 1) := by kernel_rfl
theorem fld52_5 : fieldT Tryz.prog 52 5 = some (false, 6, 1) := by kernel_rfl
-- 53: api.Proof
theorem lay53 : layT Tryz.prog 53 = some (true, 7) := by kernel_rfl
theorem zer53 : zeroT Tryz.prog 53 = some [.v (.prim (.int .i64 (0))), .v (.prim (.int .i64 (0))), .v (.prim (.int .i64 (0))), .own 0 [], .own 0 [], .own 0 [], .own 0 []] := by kernel_rfl
theorem pla53 : placesT Tryz.prog 53 = some [(0, 1), (1, 1), (2, 2), (4, 1), (5, 1), (6, 1)] := by kernel_rfl
theorem con53 : concT Tryz.prog 53 = true := by kernel_rfl
theorem fld53_0 : fieldT Tryz.prog 53 0 = some (false, 0, 1) := by kernel_rfl
theorem fld53_1 : fieldT Tryz.prog 53 1 = some (false, 1, 1) := by kernel_rfl
theorem fld53_2 : fieldT Tryz.prog 53 2 = some (true, 2, 2) := by kernel_rfl
theorem fld53_3 : fieldT Tryz.prog 53 3 = some (false, 4, 1) := by kernel_rfl
theorem fld53_4 : fieldT Tryz.prog 53 4 = some (false, 5, 1) := by kernel_rfl
theorem fld53_5 : fieldT Tryz.prog 53 5 = some (false, 6, 1) := by kernel_rfl
-- 54: (api.Formula, api.Proof)
theorem lay54 : layT Tryz.prog 54 = some (false, 1) := by kernel_rfl
theorem con54 : concT Tryz.prog 54 = true := by kernel_rfl
-- 55: func(*proofprogramsmake.Deck) (api.Formula, api.Proof)
theorem lay55 : layT Tryz.prog 55 = some (false, 1) := by kernel_rfl
theorem zer55 : zeroT Tryz.prog 55 = some [.v (.prim .nilFunc)] := by kernel_rfl
theorem con55 : concT Tryz.prog 55 = true := by kernel_rfl
-- 56: (api.Term, api.Errno)
theorem lay56 : layT Tryz.prog 56 = some (false, 1) := by kernel_rfl
theorem con56 : concT Tryz.prog 56 = true := by kernel_rfl
-- 57: func([]api.Formula, []api.Term, api.Sequent, api.Proof) (api.Term, api.Errno)
theorem lay57 : layT Tryz.prog 57 = some (false, 1) := by kernel_rfl
theorem zer57 : zeroT Tryz.prog 57 = some [.v (.prim .nilFunc)] := by kernel_rfl
theorem con57 : concT Tryz.prog 57 = true := by kernel_rfl
-- 58: struct { Types []api.Type; Hyps []api.Formula }
theorem lay58 : layT Tryz.prog 58 = some (true, 2) := by kernel_rfl
theorem zer58 : zeroT Tryz.prog 58 = some [.own 0 [], .own 0 []] := by kernel_rfl
theorem pla58 : placesT Tryz.prog 58 = some [(0, 1), (1, 1)] := by kernel_rfl
theorem con58 : concT Tryz.prog 58 = true := by kernel_rfl
theorem fld58_0 : fieldT Tryz.prog 58 0 = some (false, 0, 1) := by kernel_rfl
theorem fld58_1 : fieldT Tryz.prog 58 1 = some (false, 1, 1) := by kernel_rfl
-- 59: api.Sequent
theorem lay59 : layT Tryz.prog 59 = some (true, 2) := by kernel_rfl
theorem zer59 : zeroT Tryz.prog 59 = some [.own 0 [], .own 0 []] := by kernel_rfl
theorem pla59 : placesT Tryz.prog 59 = some [(0, 1), (1, 1)] := by kernel_rfl
theorem con59 : concT Tryz.prog 59 = true := by kernel_rfl
theorem fld59_0 : fieldT Tryz.prog 59 0 = some (false, 0, 1) := by kernel_rfl
theorem fld59_1 : fieldT Tryz.prog 59 1 = some (false, 1, 1) := by kernel_rfl
-- 60: func(*proofprogramsmake.Deck, api.Type) api.Value
theorem lay60 : layT Tryz.prog 60 = some (false, 1) := by kernel_rfl
theorem zer60 : zeroT Tryz.prog 60 = some [.v (.prim .nilFunc)] := by kernel_rfl
theorem con60 : concT Tryz.prog 60 = true := by kernel_rfl
-- 61: func() api.Term
theorem lay61 : layT Tryz.prog 61 = some (false, 1) := by kernel_rfl
theorem zer61 : zeroT Tryz.prog 61 = some [.v (.prim .nilFunc)] := by kernel_rfl
theorem con61 : concT Tryz.prog 61 = true := by kernel_rfl
-- 62: func(*proofprogramsmake.Deck) api.Type
theorem lay62 : layT Tryz.prog 62 = some (false, 1) := by kernel_rfl
theorem zer62 : zeroT Tryz.prog 62 = some [.v (.prim .nilFunc)] := by kernel_rfl
theorem con62 : concT Tryz.prog 62 = true := by kernel_rfl
-- 63: func(*proofprogramsmake.Deck, []api.Type, api.Type, int) api.Term
theorem lay63 : layT Tryz.prog 63 = some (false, 1) := by kernel_rfl
theorem zer63 : zeroT Tryz.prog 63 = some [.v (.prim .nilFunc)] := by kernel_rfl
theorem con63 : concT Tryz.prog 63 = true := by kernel_rfl
-- 64: func(api.Type, api.Term) api.Term
theorem lay64 : layT Tryz.prog 64 = some (false, 1) := by kernel_rfl
theorem zer64 : zeroT Tryz.prog 64 = some [.v (.prim .nilFunc)] := by kernel_rfl
theorem con64 : concT Tryz.prog 64 = true := by kernel_rfl
-- 65: struct { L []int; At int }
theorem lay65 : layT Tryz.prog 65 = some (true, 2) := by kernel_rfl
theorem zer65 : zeroT Tryz.prog 65 = some [.own 0 [], .v (.prim (.int .i64 (0)))] := by kernel_rfl
theorem pla65 : placesT Tryz.prog 65 = some [(0, 1), (1, 1)] := by kernel_rfl
theorem con65 : concT Tryz.prog 65 = true := by kernel_rfl
theorem fld65_0 : fieldT Tryz.prog 65 0 = some (false, 0, 1) := by kernel_rfl
theorem fld65_1 : fieldT Tryz.prog 65 1 = some (false, 1, 1) := by kernel_rfl
-- 66: proofprogramsmake.Deck
theorem lay66 : layT Tryz.prog 66 = some (true, 2) := by kernel_rfl
theorem zer66 : zeroT Tryz.prog 66 = some [.own 0 [], .v (.prim (.int .i64 (0)))] := by kernel_rfl
theorem pla66 : placesT Tryz.prog 66 = some [(0, 1), (1, 1)] := by kernel_rfl
theorem con66 : concT Tryz.prog 66 = true := by kernel_rfl
theorem fld66_0 : fieldT Tryz.prog 66 0 = some (false, 0, 1) := by kernel_rfl
theorem fld66_1 : fieldT Tryz.prog 66 1 = some (false, 1, 1) := by kernel_rfl
-- 67: (api.Value, api.Errno)
theorem lay67 : layT Tryz.prog 67 = some (false, 1) := by kernel_rfl
theorem con67 : concT Tryz.prog 67 = true := by kernel_rfl
-- 68: func(api.Value) (api.Value, api.Errno)
theorem lay68 : layT Tryz.prog 68 = some (false, 1) := by kernel_rfl
theorem zer68 : zeroT Tryz.prog 68 = some [.v (.prim .nilFunc)] := by kernel_rfl
theorem con68 : concT Tryz.prog 68 = true := by kernel_rfl
-- 69: func(api.Value, api.Value) bool
theorem lay69 : layT Tryz.prog 69 = some (false, 1) := by kernel_rfl
theorem zer69 : zeroT Tryz.prog 69 = some [.v (.prim .nilFunc)] := by kernel_rfl
theorem con69 : concT Tryz.prog 69 = true := by kernel_rfl
-- 70: func() api.Type
theorem lay70 : layT Tryz.prog 70 = some (false, 1) := by kernel_rfl
theorem zer70 : zeroT Tryz.prog 70 = some [.v (.prim .nilFunc)] := by kernel_rfl
theorem con70 : concT Tryz.prog 70 = true := by kernel_rfl
-- 71: func(int, int) int
theorem lay71 : layT Tryz.prog 71 = some (false, 1) := by kernel_rfl
theorem zer71 : zeroT Tryz.prog 71 = some [.v (.prim .nilFunc)] := by kernel_rfl
theorem con71 : concT Tryz.prog 71 = true := by kernel_rfl
-- 72: (api.Type, api.Errno)
theorem lay72 : layT Tryz.prog 72 = some (false, 1) := by kernel_rfl
theorem con72 : concT Tryz.prog 72 = true := by kernel_rfl
-- 73: func([]api.Type, api.Term) (api.Type, api.Errno)
theorem lay73 : layT Tryz.prog 73 = some (false, 1) := by kernel_rfl
theorem zer73 : zeroT Tryz.prog 73 = some [.v (.prim .nilFunc)] := by kernel_rfl
theorem con73 : concT Tryz.prog 73 = true := by kernel_rfl
-- 74: func(api.Value) (api.Type, api.Errno)
theorem lay74 : layT Tryz.prog 74 = some (false, 1) := by kernel_rfl
theorem zer74 : zeroT Tryz.prog 74 = some [.v (.prim .nilFunc)] := by kernel_rfl
theorem con74 : concT Tryz.prog 74 = true := by kernel_rfl
-- 75: func(api.Type, api.Type) bool
theorem lay75 : layT Tryz.prog 75 = some (false, 1) := by kernel_rfl
theorem zer75 : zeroT Tryz.prog 75 = some [.v (.prim .nilFunc)] := by kernel_rfl
theorem con75 : concT Tryz.prog 75 = true := by kernel_rfl
-- 76: func(api.Type) (bool, api.Errno)
theorem lay76 : layT Tryz.prog 76 = some (false, 1) := by kernel_rfl
theorem zer76 : zeroT Tryz.prog 76 = some [.v (.prim .nilFunc)] := by kernel_rfl
theorem con76 : concT Tryz.prog 76 = true := by kernel_rfl
-- 77: *proofprogramsref06.machine
theorem lay77 : layT Tryz.prog 77 = some (false, 1) := by kernel_rfl
theorem zer77 : zeroT Tryz.prog 77 = some [.v (.prim (.pointer none))] := by kernel_rfl
theorem ptr77 : ptrT Tryz.prog 77 = true := by kernel_rfl
theorem zrp77 : zeroP Tryz.prog 77 = some (.pointer none) := by kernel_rfl
theorem con77 : concT Tryz.prog 77 = true := by kernel_rfl
-- 78: struct { used int; most int; out bool }
theorem lay78 : layT Tryz.prog 78 = some (true, 3) := by kernel_rfl
theorem zer78 : zeroT Tryz.prog 78 = some [.v (.prim (.int .i64 (0))), .v (.prim (.int .i64 (0))), .v (.prim (.bool false))] := by kernel_rfl
theorem pla78 : placesT Tryz.prog 78 = some [(0, 1), (1, 1), (2, 1)] := by kernel_rfl
theorem con78 : concT Tryz.prog 78 = true := by kernel_rfl
theorem fld78_0 : fieldT Tryz.prog 78 0 = some (false, 0, 1) := by kernel_rfl
theorem fld78_1 : fieldT Tryz.prog 78 1 = some (false, 1, 1) := by kernel_rfl
theorem fld78_2 : fieldT Tryz.prog 78 2 = some (false, 2, 1) := by kernel_rfl
-- 79: proofprogramsref06.machine
theorem lay79 : layT Tryz.prog 79 = some (true, 3) := by kernel_rfl
theorem zer79 : zeroT Tryz.prog 79 = some [.v (.prim (.int .i64 (0))), .v (.prim (.int .i64 (0))), .v (.prim (.bool false))] := by kernel_rfl
theorem pla79 : placesT Tryz.prog 79 = some [(0, 1), (1, 1), (2, 1)] := by kernel_rfl
theorem con79 : concT Tryz.prog 79 = true := by kernel_rfl
theorem fld79_0 : fieldT Tryz.prog 79 0 = some (false, 0, 1) := by kernel_rfl
theorem fld79_1 : fieldT Tryz.prog 79 1 = some (false, 1, 1) := by kernel_rfl
theorem fld79_2 : fieldT Tryz.prog 79 2 = some (false, 2, 1) := by kernel_rfl
-- 80: []proofprogramsref06.result
theorem lay80 : layT Tryz.prog 80 = some (false, 1) := by kernel_rfl
theorem zer80 : zeroT Tryz.prog 80 = some [.own 0 []] := by kernel_rfl
theorem ele80 : elemT Tryz.prog 80 = some 9 := by kernel_rfl
theorem elz80 : elemZ Tryz.prog 80 = some (9, 152) := by kernel_rfl
theorem con80 : concT Tryz.prog 80 = true := by kernel_rfl
-- 81: struct { num int; list []int; pair []proofprogramsref06.result; body api.Term; env []proofprogramsref06.result }
theorem lay81 : layT Tryz.prog 81 = some (true, 9) := by kernel_rfl
theorem zer81 : zeroT Tryz.prog 81 = some [.v (.prim (.int .i64 (0))), .own 0 [], .own 0 [], .v (.prim (.int .i64 (0))), .v (.prim (.int .i64 (0))), .v (.prim (.int .i64 (0))), .own 0 [], .own 0 [], .own 0 []] := by kernel_rfl
theorem pla81 : placesT Tryz.prog 81 = some [(0, 1), (1, 1), (2, 1), (3, 5), (8, 1)] := by kernel_rfl
theorem con81 : concT Tryz.prog 81 = true := by kernel_rfl
theorem fld81_0 : fieldT Tryz.prog 81 0 = some (false, 0, 1) := by kernel_rfl
theorem fld81_1 : fieldT Tryz.prog 81 1 = some (false, 1, 1) := by kernel_rfl
theorem fld81_2 : fieldT Tryz.prog 81 2 = some (false, 2, 1) := by kernel_rfl
theorem fld81_3 : fieldT Tryz.prog 81 3 = some (true, 3, 5) := by kernel_rfl
theorem fld81_4 : fieldT Tryz.prog 81 4 = some (false, 8, 1) := by kernel_rfl
-- 82: proofprogramsref06.result
theorem lay82 : layT Tryz.prog 82 = some (true, 9) := by kernel_rfl
theorem zer82 : zeroT Tryz.prog 82 = some [.v (.prim (.int .i64 (0))), .own 0 [], .own 0 [], .v (.prim (.int .i64 (0))), .v (.prim (.int .i64 (0))), .v (.prim (.int .i64 (0))), .own 0 [], .own 0 [], .own 0 []] := by kernel_rfl
theorem pla82 : placesT Tryz.prog 82 = some [(0, 1), (1, 1), (2, 1), (3, 5), (8, 1)] := by kernel_rfl
theorem con82 : concT Tryz.prog 82 = true := by kernel_rfl
theorem fld82_0 : fieldT Tryz.prog 82 0 = some (false, 0, 1) := by kernel_rfl
theorem fld82_1 : fieldT Tryz.prog 82 1 = some (false, 1, 1) := by kernel_rfl
theorem fld82_2 : fieldT Tryz.prog 82 2 = some (false, 2, 1) := by kernel_rfl
theorem fld82_3 : fieldT Tryz.prog 82 3 = some (true, 3, 5) := by kernel_rfl
theorem fld82_4 : fieldT Tryz.prog 82 4 = some (false, 8, 1) := by kernel_rfl
-- 83: func(api.Term, []proofprogramsref06.result) proofprogramsref06.result
theorem lay83 : layT Tryz.prog 83 = some (false, 1) := by kernel_rfl
theorem zer83 : zeroT Tryz.prog 83 = some [.v (.prim .nilFunc)] := by kernel_rfl
theorem con83 : concT Tryz.prog 83 = true := by kernel_rfl
-- 84: func(proofprogramsref06.result, proofprogramsref06.result) proofprogramsref06.result
theorem lay84 : layT Tryz.prog 84 = some (false, 1) := by kernel_rfl
theorem zer84 : zeroT Tryz.prog 84 = some [.v (.prim .nilFunc)] := by kernel_rfl
theorem con84 : concT Tryz.prog 84 = true := by kernel_rfl
-- 85: func(api.Value) proofprogramsref06.result
theorem lay85 : layT Tryz.prog 85 = some (false, 1) := by kernel_rfl
theorem zer85 : zeroT Tryz.prog 85 = some [.v (.prim .nilFunc)] := by kernel_rfl
theorem con85 : concT Tryz.prog 85 = true := by kernel_rfl
-- 86: func(proofprogramsref06.result, api.Type) api.Value
theorem lay86 : layT Tryz.prog 86 = some (false, 1) := by kernel_rfl
theorem zer86 : zeroT Tryz.prog 86 = some [.v (.prim .nilFunc)] := by kernel_rfl
theorem con86 : concT Tryz.prog 86 = true := by kernel_rfl
-- 87: (api.Formula, api.Proof, api.Errno)
theorem lay87 : layT Tryz.prog 87 = some (false, 1) := by kernel_rfl
theorem con87 : concT Tryz.prog 87 = true := by kernel_rfl
-- 88: func(api.Term, api.Term) (api.Formula, api.Proof, api.Errno)
theorem lay88 : layT Tryz.prog 88 = some (false, 1) := by kernel_rfl
theorem zer88 : zeroT Tryz.prog 88 = some [.v (.prim .nilFunc)] := by kernel_rfl
theorem con88 : concT Tryz.prog 88 = true := by kernel_rfl
-- 89: func(api.Term, api.Term, api.Term) (api.Formula, api.Proof, api.Errno)
theorem lay89 : layT Tryz.prog 89 = some (false, 1) := by kernel_rfl
theorem zer89 : zeroT Tryz.prog 89 = some [.v (.prim .nilFunc)] := by kernel_rfl
theorem con89 : concT Tryz.prog 89 = true := by kernel_rfl
-- 90: func(int) api.Term
theorem lay90 : layT Tryz.prog 90 = some (false, 1) := by kernel_rfl
theorem zer90 : zeroT Tryz.prog 90 = some [.v (.prim .nilFunc)] := by kernel_rfl
theorem con90 : concT Tryz.prog 90 = true := by kernel_rfl
-- 91: func(api.Term) (api.Formula, api.Proof, api.Errno)
theorem lay91 : layT Tryz.prog 91 = some (false, 1) := by kernel_rfl
theorem zer91 : zeroT Tryz.prog 91 = some [.v (.prim .nilFunc)] := by kernel_rfl
theorem con91 : concT Tryz.prog 91 = true := by kernel_rfl
-- 92: func(api.Term, api.Proof, api.Term, api.Proof) (api.Formula, api.Proof, api.Errno)
theorem lay92 : layT Tryz.prog 92 = some (false, 1) := by kernel_rfl
theorem zer92 : zeroT Tryz.prog 92 = some [.v (.prim .nilFunc)] := by kernel_rfl
theorem con92 : concT Tryz.prog 92 = true := by kernel_rfl
-- 93: struct { Formula api.Formula; Uses []int }
theorem lay93 : layT Tryz.prog 93 = some (true, 6) := by kernel_rfl
theorem zer93 : zeroT Tryz.prog 93 = some [.v (.prim (.int .i64 (0))), .v (.prim (.int .i64 (0))), .own 0 [], .own 0 [], .own 0 [], .own 0 []] := by kernel_rfl
theorem pla93 : placesT Tryz.prog 93 = some [(0, 5), (5, 1)] := by kernel_rfl
theorem con93 : concT Tryz.prog 93 = true := by kernel_rfl
theorem fld93_0 : fieldT Tryz.prog 93 0 = some (true, 0, 5) := by kernel_rfl
theorem fld93_1 : fieldT Tryz.prog 93 1 = some (false, 5, 1) := by kernel_rfl
-- 94: api.Proved
theorem lay94 : layT Tryz.prog 94 = some (true, 6) := by kernel_rfl
theorem zer94 : zeroT Tryz.prog 94 = some [.v (.prim (.int .i64 (0))), .v (.prim (.int .i64 (0))), .own 0 [], .own 0 [], .own 0 [], .own 0 []] := by kernel_rfl
theorem pla94 : placesT Tryz.prog 94 = some [(0, 5), (5, 1)] := by kernel_rfl
theorem con94 : concT Tryz.prog 94 = true := by kernel_rfl
theorem fld94_0 : fieldT Tryz.prog 94 0 = some (true, 0, 5) := by kernel_rfl
theorem fld94_1 : fieldT Tryz.prog 94 1 = some (false, 5, 1) := by kernel_rfl
-- 95: (api.Proved, api.Errno)
theorem lay95 : layT Tryz.prog 95 = some (false, 1) := by kernel_rfl
theorem con95 : concT Tryz.prog 95 = true := by kernel_rfl
-- 96: func([]api.Formula, api.Sequent, api.Proof) (api.Proved, api.Errno)
theorem lay96 : layT Tryz.prog 96 = some (false, 1) := by kernel_rfl
theorem zer96 : zeroT Tryz.prog 96 = some [.v (.prim .nilFunc)] := by kernel_rfl
theorem con96 : concT Tryz.prog 96 = true := by kernel_rfl
-- 97: func(int, ...api.Term) api.Term
theorem lay97 : layT Tryz.prog 97 = some (false, 1) := by kernel_rfl
theorem zer97 : zeroT Tryz.prog 97 = some [.v (.prim .nilFunc)] := by kernel_rfl
theorem con97 : concT Tryz.prog 97 = true := by kernel_rfl
-- 98: func([]api.Formula, []api.Term) api.Errno
theorem lay98 : layT Tryz.prog 98 = some (false, 1) := by kernel_rfl
theorem zer98 : zeroT Tryz.prog 98 = some [.v (.prim .nilFunc)] := by kernel_rfl
theorem con98 : concT Tryz.prog 98 = true := by kernel_rfl
-- 99: func(api.Formula) bool
theorem lay99 : layT Tryz.prog 99 = some (false, 1) := by kernel_rfl
theorem zer99 : zeroT Tryz.prog 99 = some [.v (.prim .nilFunc)] := by kernel_rfl
theorem con99 : concT Tryz.prog 99 = true := by kernel_rfl
-- 100: *proofprogramsref25.Builder
theorem lay100 : layT Tryz.prog 100 = some (false, 1) := by kernel_rfl
theorem zer100 : zeroT Tryz.prog 100 = some [.v (.prim (.pointer none))] := by kernel_rfl
theorem ptr100 : ptrT Tryz.prog 100 = true := by kernel_rfl
theorem zrp100 : zeroP Tryz.prog 100 = some (.pointer none) := by kernel_rfl
theorem con100 : concT Tryz.prog 100 = true := by kernel_rfl
-- 101: struct { Lemmas []api.Formula; Terms []api.Term; Next int }
theorem lay101 : layT Tryz.prog 101 = some (true, 3) := by kernel_rfl
theorem zer101 : zeroT Tryz.prog 101 = some [.own 0 [], .own 0 [], .v (.prim (.int .i64 (0)))] := by kernel_rfl
theorem pla101 : placesT Tryz.prog 101 = some [(0, 1), (1, 1), (2, 1)] := by kernel_rfl
theorem con101 : concT Tryz.prog 101 = true := by kernel_rfl
theorem fld101_0 : fieldT Tryz.prog 101 0 = some (false, 0, 1) := by kernel_rfl
theorem fld101_1 : fieldT Tryz.prog 101 1 = some (false, 1, 1) := by kernel_rfl
theorem fld101_2 : fieldT Tryz.prog 101 2 = some (false, 2, 1) := by kernel_rfl
-- 102: proofprogramsref25.Builder
theorem lay102 : layT Tryz.prog 102 = some (true, 3) := by kernel_rfl
theorem zer102 : zeroT Tryz.prog 102 = some [.own 0 [], .own 0 [], .v (.prim (.int .i64 (0)))] := by kernel_rfl
theorem pla102 : placesT Tryz.prog 102 = some [(0, 1), (1, 1), (2, 1)] := by kernel_rfl
theorem con102 : concT Tryz.prog 102 = true := by kernel_rfl
theorem fld102_0 : fieldT Tryz.prog 102 0 = some (false, 0, 1) := by kernel_rfl
theorem fld102_1 : fieldT Tryz.prog 102 1 = some (false, 1, 1) := by kernel_rfl
theorem fld102_2 : fieldT Tryz.prog 102 2 = some (false, 2, 1) := by kernel_rfl
-- 103: struct { Sequent api.Sequent; Vars []api.Term; Hyps []api.Term }
theorem lay103 : layT Tryz.prog 103 = some (true, 4) := by kernel_rfl
theorem zer103 : zeroT Tryz.prog 103 = some [.own 0 [], .own 0 [], .own 0 [], .own 0 []] := by kernel_rfl
theorem pla103 : placesT Tryz.prog 103 = some [(0, 2), (2, 1), (3, 1)] := by kernel_rfl
theorem con103 : concT Tryz.prog 103 = true := by kernel_rfl
theorem fld103_0 : fieldT Tryz.prog 103 0 = some (true, 0, 2) := by kernel_rfl
theorem fld103_1 : fieldT Tryz.prog 103 1 = some (false, 2, 1) := by kernel_rfl
theorem fld103_2 : fieldT Tryz.prog 103 2 = some (false, 3, 1) := by kernel_rfl
-- 104: proofprogramsref25.Place
theorem lay104 : layT Tryz.prog 104 = some (true, 4) := by kernel_rfl
theorem zer104 : zeroT Tryz.prog 104 = some [.own 0 [], .own 0 [], .own 0 [], .own 0 []] := by kernel_rfl
theorem pla104 : placesT Tryz.prog 104 = some [(0, 2), (2, 1), (3, 1)] := by kernel_rfl
theorem con104 : concT Tryz.prog 104 = true := by kernel_rfl
theorem fld104_0 : fieldT Tryz.prog 104 0 = some (true, 0, 2) := by kernel_rfl
theorem fld104_1 : fieldT Tryz.prog 104 1 = some (false, 2, 1) := by kernel_rfl
theorem fld104_2 : fieldT Tryz.prog 104 2 = some (false, 3, 1) := by kernel_rfl
-- 105: (proofprogramsref25.Place, []int)
theorem lay105 : layT Tryz.prog 105 = some (false, 1) := by kernel_rfl
theorem con105 : concT Tryz.prog 105 = true := by kernel_rfl
-- 106: func(api.Sequent) (proofprogramsref25.Place, []int)
theorem lay106 : layT Tryz.prog 106 = some (false, 1) := by kernel_rfl
theorem zer106 : zeroT Tryz.prog 106 = some [.v (.prim .nilFunc)] := by kernel_rfl
theorem con106 : concT Tryz.prog 106 = true := by kernel_rfl
-- 107: func(proofprogramsref25.Place, api.Proof) (api.Term, api.Errno)
theorem lay107 : layT Tryz.prog 107 = some (false, 1) := by kernel_rfl
theorem zer107 : zeroT Tryz.prog 107 = some [.v (.prim .nilFunc)] := by kernel_rfl
theorem con107 : concT Tryz.prog 107 = true := by kernel_rfl
-- 108: func(api.Term, []int) api.Term
theorem lay108 : layT Tryz.prog 108 = some (false, 1) := by kernel_rfl
theorem zer108 : zeroT Tryz.prog 108 = some [.v (.prim .nilFunc)] := by kernel_rfl
theorem con108 : concT Tryz.prog 108 = true := by kernel_rfl
-- 109: func(api.Term) api.Term
theorem lay109 : layT Tryz.prog 109 = some (false, 1) := by kernel_rfl
theorem zer109 : zeroT Tryz.prog 109 = some [.v (.prim .nilFunc)] := by kernel_rfl
theorem con109 : concT Tryz.prog 109 = true := by kernel_rfl
-- 110: func(api.Term, api.Term, api.Term) api.Term
theorem lay110 : layT Tryz.prog 110 = some (false, 1) := by kernel_rfl
theorem zer110 : zeroT Tryz.prog 110 = some [.v (.prim .nilFunc)] := by kernel_rfl
theorem con110 : concT Tryz.prog 110 = true := by kernel_rfl
-- 111: func(api.Term) (api.Term, api.Errno)
theorem lay111 : layT Tryz.prog 111 = some (false, 1) := by kernel_rfl
theorem zer111 : zeroT Tryz.prog 111 = some [.v (.prim .nilFunc)] := by kernel_rfl
theorem con111 : concT Tryz.prog 111 = true := by kernel_rfl
-- 112: func(api.Type, api.Type) api.Type
theorem lay112 : layT Tryz.prog 112 = some (false, 1) := by kernel_rfl
theorem zer112 : zeroT Tryz.prog 112 = some [.v (.prim .nilFunc)] := by kernel_rfl
theorem con112 : concT Tryz.prog 112 = true := by kernel_rfl
-- 113: func([]api.Type, api.Type) []int
theorem lay113 : layT Tryz.prog 113 = some (false, 1) := by kernel_rfl
theorem zer113 : zeroT Tryz.prog 113 = some [.v (.prim .nilFunc)] := by kernel_rfl
theorem con113 : concT Tryz.prog 113 = true := by kernel_rfl
-- 114: func(*proofprogramsmake.Deck, int) api.Type
theorem lay114 : layT Tryz.prog 114 = some (false, 1) := by kernel_rfl
theorem zer114 : zeroT Tryz.prog 114 = some [.v (.prim .nilFunc)] := by kernel_rfl
theorem con114 : concT Tryz.prog 114 = true := by kernel_rfl
-- 115: func(int, api.Type, ...api.Term) api.Term
theorem lay115 : layT Tryz.prog 115 = some (false, 1) := by kernel_rfl
theorem zer115 : zeroT Tryz.prog 115 = some [.v (.prim .nilFunc)] := by kernel_rfl
theorem con115 : concT Tryz.prog 115 = true := by kernel_rfl
-- 116: func([]api.Type, ...api.Type) []api.Type
theorem lay116 : layT Tryz.prog 116 = some (false, 1) := by kernel_rfl
theorem zer116 : zeroT Tryz.prog 116 = some [.v (.prim .nilFunc)] := by kernel_rfl
theorem con116 : concT Tryz.prog 116 = true := by kernel_rfl
-- 117: func(api.Term, ...api.Term) api.Term
theorem lay117 : layT Tryz.prog 117 = some (false, 1) := by kernel_rfl
theorem zer117 : zeroT Tryz.prog 117 = some [.v (.prim .nilFunc)] := by kernel_rfl
theorem con117 : concT Tryz.prog 117 = true := by kernel_rfl
-- 118: []machine.thing
theorem lay118 : layT Tryz.prog 118 = some (false, 1) := by kernel_rfl
theorem zer118 : zeroT Tryz.prog 118 = some [.own 0 []] := by kernel_rfl
theorem ele118 : elemT Tryz.prog 118 = some 1 := by kernel_rfl
theorem elz118 : elemZ Tryz.prog 118 = some (1, 16) := by kernel_rfl
theorem con118 : concT Tryz.prog 118 = true := by kernel_rfl
-- 119: machine.thing
theorem lay119 : layT Tryz.prog 119 = some (false, 1) := by kernel_rfl
theorem zer119 : zeroT Tryz.prog 119 = some [.v (.prim .nilIface)] := by kernel_rfl
-- 120: func(api.Value) machine.thing
theorem lay120 : layT Tryz.prog 120 = some (false, 1) := by kernel_rfl
theorem zer120 : zeroT Tryz.prog 120 = some [.v (.prim .nilFunc)] := by kernel_rfl
theorem con120 : concT Tryz.prog 120 = true := by kernel_rfl
-- 121: *machine.machine
theorem lay121 : layT Tryz.prog 121 = some (false, 1) := by kernel_rfl
theorem zer121 : zeroT Tryz.prog 121 = some [.v (.prim (.pointer none))] := by kernel_rfl
theorem ptr121 : ptrT Tryz.prog 121 = true := by kernel_rfl
theorem zrp121 : zeroP Tryz.prog 121 = some (.pointer none) := by kernel_rfl
theorem con121 : concT Tryz.prog 121 = true := by kernel_rfl
-- 122: struct { work int; limit int }
theorem lay122 : layT Tryz.prog 122 = some (true, 2) := by kernel_rfl
theorem zer122 : zeroT Tryz.prog 122 = some [.v (.prim (.int .i64 (0))), .v (.prim (.int .i64 (0)))] := by kernel_rfl
theorem pla122 : placesT Tryz.prog 122 = some [(0, 1), (1, 1)] := by kernel_rfl
theorem con122 : concT Tryz.prog 122 = true := by kernel_rfl
theorem fld122_0 : fieldT Tryz.prog 122 0 = some (false, 0, 1) := by kernel_rfl
theorem fld122_1 : fieldT Tryz.prog 122 1 = some (false, 1, 1) := by kernel_rfl
-- 123: machine.machine
theorem lay123 : layT Tryz.prog 123 = some (true, 2) := by kernel_rfl
theorem zer123 : zeroT Tryz.prog 123 = some [.v (.prim (.int .i64 (0))), .v (.prim (.int .i64 (0)))] := by kernel_rfl
theorem pla123 : placesT Tryz.prog 123 = some [(0, 1), (1, 1)] := by kernel_rfl
theorem con123 : concT Tryz.prog 123 = true := by kernel_rfl
theorem fld123_0 : fieldT Tryz.prog 123 0 = some (false, 0, 1) := by kernel_rfl
theorem fld123_1 : fieldT Tryz.prog 123 1 = some (false, 1, 1) := by kernel_rfl
-- 124: (machine.thing, bool)
theorem lay124 : layT Tryz.prog 124 = some (false, 1) := by kernel_rfl
theorem con124 : concT Tryz.prog 124 = true := by kernel_rfl
-- 125: func(api.Term, *machine.env) (machine.thing, bool)
theorem lay125 : layT Tryz.prog 125 = some (false, 1) := by kernel_rfl
theorem zer125 : zeroT Tryz.prog 125 = some [.v (.prim .nilFunc)] := by kernel_rfl
theorem con125 : concT Tryz.prog 125 = true := by kernel_rfl
-- 126: func(machine.thing, ...machine.thing) (machine.thing, bool)
theorem lay126 : layT Tryz.prog 126 = some (false, 1) := by kernel_rfl
theorem zer126 : zeroT Tryz.prog 126 = some [.v (.prim .nilFunc)] := by kernel_rfl
theorem con126 : concT Tryz.prog 126 = true := by kernel_rfl
-- 127: func(machine.thing) api.Value
theorem lay127 : layT Tryz.prog 127 = some (false, 1) := by kernel_rfl
theorem zer127 : zeroT Tryz.prog 127 = some [.v (.prim .nilFunc)] := by kernel_rfl
theorem con127 : concT Tryz.prog 127 = true := by kernel_rfl
-- 128: func(api.Value) api.Errno
theorem lay128 : layT Tryz.prog 128 = some (false, 1) := by kernel_rfl
theorem zer128 : zeroT Tryz.prog 128 = some [.v (.prim .nilFunc)] := by kernel_rfl
theorem con128 : concT Tryz.prog 128 = true := by kernel_rfl
-- 129: func(api.Value) api.Value
theorem lay129 : layT Tryz.prog 129 = some (false, 1) := by kernel_rfl
theorem zer129 : zeroT Tryz.prog 129 = some [.v (.prim .nilFunc)] := by kernel_rfl
theorem con129 : concT Tryz.prog 129 = true := by kernel_rfl
-- 130: func([]api.Type) api.Errno
theorem lay130 : layT Tryz.prog 130 = some (false, 1) := by kernel_rfl
theorem zer130 : zeroT Tryz.prog 130 = some [.v (.prim .nilFunc)] := by kernel_rfl
theorem con130 : concT Tryz.prog 130 = true := by kernel_rfl
-- 131: func(api.Term) api.Errno
theorem lay131 : layT Tryz.prog 131 = some (false, 1) := by kernel_rfl
theorem zer131 : zeroT Tryz.prog 131 = some [.v (.prim .nilFunc)] := by kernel_rfl
theorem con131 : concT Tryz.prog 131 = true := by kernel_rfl
-- 132: struct { api.Type; nodes int }
theorem lay132 : layT Tryz.prog 132 = some (true, 3) := by kernel_rfl
theorem zer132 : zeroT Tryz.prog 132 = some [.v (.prim (.int .i64 (0))), .own 0 [], .v (.prim (.int .i64 (0)))] := by kernel_rfl
theorem pla132 : placesT Tryz.prog 132 = some [(0, 2), (2, 1)] := by kernel_rfl
theorem con132 : concT Tryz.prog 132 = true := by kernel_rfl
theorem fld132_0 : fieldT Tryz.prog 132 0 = some (true, 0, 2) := by kernel_rfl
theorem fld132_1 : fieldT Tryz.prog 132 1 = some (false, 2, 1) := by kernel_rfl
-- 133: typing.Sized
theorem lay133 : layT Tryz.prog 133 = some (true, 3) := by kernel_rfl
theorem zer133 : zeroT Tryz.prog 133 = some [.v (.prim (.int .i64 (0))), .own 0 [], .v (.prim (.int .i64 (0)))] := by kernel_rfl
theorem pla133 : placesT Tryz.prog 133 = some [(0, 2), (2, 1)] := by kernel_rfl
theorem con133 : concT Tryz.prog 133 = true := by kernel_rfl
theorem fld133_0 : fieldT Tryz.prog 133 0 = some (true, 0, 2) := by kernel_rfl
theorem fld133_1 : fieldT Tryz.prog 133 1 = some (false, 2, 1) := by kernel_rfl
-- 134: (typing.Sized, api.Errno)
theorem lay134 : layT Tryz.prog 134 = some (false, 1) := by kernel_rfl
theorem con134 : concT Tryz.prog 134 = true := by kernel_rfl
-- 135: []typing.Sized
theorem lay135 : layT Tryz.prog 135 = some (false, 1) := by kernel_rfl
theorem zer135 : zeroT Tryz.prog 135 = some [.own 0 []] := by kernel_rfl
theorem ele135 : elemT Tryz.prog 135 = some 3 := by kernel_rfl
theorem elz135 : elemZ Tryz.prog 135 = some (3, 40) := by kernel_rfl
theorem con135 : concT Tryz.prog 135 = true := by kernel_rfl
-- 136: typing.Context
theorem lay136 : layT Tryz.prog 136 = some (false, 1) := by kernel_rfl
theorem zer136 : zeroT Tryz.prog 136 = some [.own 0 []] := by kernel_rfl
theorem ele136 : elemT Tryz.prog 136 = some 3 := by kernel_rfl
theorem elz136 : elemZ Tryz.prog 136 = some (3, 40) := by kernel_rfl
theorem con136 : concT Tryz.prog 136 = true := by kernel_rfl
-- 137: func([]api.Type) typing.Context
theorem lay137 : layT Tryz.prog 137 = some (false, 1) := by kernel_rfl
theorem zer137 : zeroT Tryz.prog 137 = some [.v (.prim .nilFunc)] := by kernel_rfl
theorem con137 : concT Tryz.prog 137 = true := by kernel_rfl
-- 138: func(api.Term) (typing.Sized, api.Errno)
theorem lay138 : layT Tryz.prog 138 = some (false, 1) := by kernel_rfl
theorem zer138 : zeroT Tryz.prog 138 = some [.v (.prim .nilFunc)] := by kernel_rfl
theorem con138 : concT Tryz.prog 138 = true := by kernel_rfl
-- 139: func(api.Type) api.Type
theorem lay139 : layT Tryz.prog 139 = some (false, 1) := by kernel_rfl
theorem zer139 : zeroT Tryz.prog 139 = some [.v (.prim .nilFunc)] := by kernel_rfl
theorem con139 : concT Tryz.prog 139 = true := by kernel_rfl
-- 140: func(api.Value) api.Type
theorem lay140 : layT Tryz.prog 140 = some (false, 1) := by kernel_rfl
theorem zer140 : zeroT Tryz.prog 140 = some [.v (.prim .nilFunc)] := by kernel_rfl
theorem con140 : concT Tryz.prog 140 = true := by kernel_rfl
-- 141: func(api.Type) api.Errno
theorem lay141 : layT Tryz.prog 141 = some (false, 1) := by kernel_rfl
theorem zer141 : zeroT Tryz.prog 141 = some [.v (.prim .nilFunc)] := by kernel_rfl
theorem con141 : concT Tryz.prog 141 = true := by kernel_rfl
-- 142: func(api.Type) int
theorem lay142 : layT Tryz.prog 142 = some (false, 1) := by kernel_rfl
theorem zer142 : zeroT Tryz.prog 142 = some [.v (.prim .nilFunc)] := by kernel_rfl
theorem con142 : concT Tryz.prog 142 = true := by kernel_rfl
-- 143: func(api.Term, api.Type) api.Errno
theorem lay143 : layT Tryz.prog 143 = some (false, 1) := by kernel_rfl
theorem zer143 : zeroT Tryz.prog 143 = some [.v (.prim .nilFunc)] := by kernel_rfl
theorem con143 : concT Tryz.prog 143 = true := by kernel_rfl
-- 144: func(api.Formula, api.Proof, api.Proof) api.Proof
theorem lay144 : layT Tryz.prog 144 = some (false, 1) := by kernel_rfl
theorem zer144 : zeroT Tryz.prog 144 = some [.v (.prim .nilFunc)] := by kernel_rfl
theorem con144 : concT Tryz.prog 144 = true := by kernel_rfl
-- 145: func(api.Term, api.Term) api.Formula
theorem lay145 : layT Tryz.prog 145 = some (false, 1) := by kernel_rfl
theorem zer145 : zeroT Tryz.prog 145 = some [.v (.prim .nilFunc)] := by kernel_rfl
theorem con145 : concT Tryz.prog 145 = true := by kernel_rfl
-- 146: func(int) api.Proof
theorem lay146 : layT Tryz.prog 146 = some (false, 1) := by kernel_rfl
theorem zer146 : zeroT Tryz.prog 146 = some [.v (.prim .nilFunc)] := by kernel_rfl
theorem con146 : concT Tryz.prog 146 = true := by kernel_rfl
-- 147: func(api.Term) api.Proof
theorem lay147 : layT Tryz.prog 147 = some (false, 1) := by kernel_rfl
theorem zer147 : zeroT Tryz.prog 147 = some [.v (.prim .nilFunc)] := by kernel_rfl
theorem con147 : concT Tryz.prog 147 = true := by kernel_rfl
-- 148: func(api.Proof, api.Proof) api.Proof
theorem lay148 : layT Tryz.prog 148 = some (false, 1) := by kernel_rfl
theorem zer148 : zeroT Tryz.prog 148 = some [.v (.prim .nilFunc)] := by kernel_rfl
theorem con148 : concT Tryz.prog 148 = true := by kernel_rfl
-- 149: func(api.Formula, api.Term, api.Proof) api.Proof
theorem lay149 : layT Tryz.prog 149 = some (false, 1) := by kernel_rfl
theorem zer149 : zeroT Tryz.prog 149 = some [.v (.prim .nilFunc)] := by kernel_rfl
theorem con149 : concT Tryz.prog 149 = true := by kernel_rfl
-- 150: func(api.Term) api.Formula
theorem lay150 : layT Tryz.prog 150 = some (false, 1) := by kernel_rfl
theorem zer150 : zeroT Tryz.prog 150 = some [.v (.prim .nilFunc)] := by kernel_rfl
theorem con150 : concT Tryz.prog 150 = true := by kernel_rfl
-- 151: func(int, api.Term, api.Term, api.Term) api.Term
theorem lay151 : layT Tryz.prog 151 = some (false, 1) := by kernel_rfl
theorem zer151 : zeroT Tryz.prog 151 = some [.v (.prim .nilFunc)] := by kernel_rfl
theorem con151 : concT Tryz.prog 151 = true := by kernel_rfl
-- 152: func(api.Formula, api.Proof) (api.Formula, api.Proof, api.Errno)
theorem lay152 : layT Tryz.prog 152 = some (false, 1) := by kernel_rfl
theorem zer152 : zeroT Tryz.prog 152 = some [.v (.prim .nilFunc)] := by kernel_rfl
theorem con152 : concT Tryz.prog 152 = true := by kernel_rfl
-- 153: func(api.Type, api.Formula) api.Formula
theorem lay153 : layT Tryz.prog 153 = some (false, 1) := by kernel_rfl
theorem zer153 : zeroT Tryz.prog 153 = some [.v (.prim .nilFunc)] := by kernel_rfl
theorem con153 : concT Tryz.prog 153 = true := by kernel_rfl
-- 154: func(api.Type, api.Proof) api.Proof
theorem lay154 : layT Tryz.prog 154 = some (false, 1) := by kernel_rfl
theorem zer154 : zeroT Tryz.prog 154 = some [.v (.prim .nilFunc)] := by kernel_rfl
theorem con154 : concT Tryz.prog 154 = true := by kernel_rfl
-- 155: func(int, api.Formula, api.Term, api.Proof, api.Proof) api.Proof
theorem lay155 : layT Tryz.prog 155 = some (false, 1) := by kernel_rfl
theorem zer155 : zeroT Tryz.prog 155 = some [.v (.prim .nilFunc)] := by kernel_rfl
theorem con155 : concT Tryz.prog 155 = true := by kernel_rfl
-- 156: func(api.Term, api.Term) api.Term
theorem lay156 : layT Tryz.prog 156 = some (false, 1) := by kernel_rfl
theorem zer156 : zeroT Tryz.prog 156 = some [.v (.prim .nilFunc)] := by kernel_rfl
theorem con156 : concT Tryz.prog 156 = true := by kernel_rfl
-- 157: func(int, ...api.Proof) api.Proof
theorem lay157 : layT Tryz.prog 157 = some (false, 1) := by kernel_rfl
theorem zer157 : zeroT Tryz.prog 157 = some [.v (.prim .nilFunc)] := by kernel_rfl
theorem con157 : concT Tryz.prog 157 = true := by kernel_rfl
-- 158: func(api.Term, api.Term, api.Term, api.Term) api.Term
theorem lay158 : layT Tryz.prog 158 = some (false, 1) := by kernel_rfl
theorem zer158 : zeroT Tryz.prog 158 = some [.v (.prim .nilFunc)] := by kernel_rfl
theorem con158 : concT Tryz.prog 158 = true := by kernel_rfl
-- 159: func(int) (api.Term, api.Errno)
theorem lay159 : layT Tryz.prog 159 = some (false, 1) := by kernel_rfl
theorem zer159 : zeroT Tryz.prog 159 = some [.v (.prim .nilFunc)] := by kernel_rfl
theorem con159 : concT Tryz.prog 159 = true := by kernel_rfl
-- 160: func(api.Term, api.Proof) api.Errno
theorem lay160 : layT Tryz.prog 160 = some (false, 1) := by kernel_rfl
theorem zer160 : zeroT Tryz.prog 160 = some [.v (.prim .nilFunc)] := by kernel_rfl
theorem con160 : concT Tryz.prog 160 = true := by kernel_rfl
-- 161: func(api.Term, api.Proof) api.Proof
theorem lay161 : layT Tryz.prog 161 = some (false, 1) := by kernel_rfl
theorem zer161 : zeroT Tryz.prog 161 = some [.v (.prim .nilFunc)] := by kernel_rfl
theorem con161 : concT Tryz.prog 161 = true := by kernel_rfl
-- 162: func([]api.Formula, api.Sequent) api.Errno
theorem lay162 : layT Tryz.prog 162 = some (false, 1) := by kernel_rfl
theorem zer162 : zeroT Tryz.prog 162 = some [.v (.prim .nilFunc)] := by kernel_rfl
theorem con162 : concT Tryz.prog 162 = true := by kernel_rfl
-- 163: func(api.Proof) api.Errno
theorem lay163 : layT Tryz.prog 163 = some (false, 1) := by kernel_rfl
theorem zer163 : zeroT Tryz.prog 163 = some [.v (.prim .nilFunc)] := by kernel_rfl
theorem con163 : concT Tryz.prog 163 = true := by kernel_rfl
-- 164: struct { lemmas []api.Formula; types []api.Type; hyps []api.Formula }
theorem lay164 : layT Tryz.prog 164 = some (true, 3) := by kernel_rfl
theorem zer164 : zeroT Tryz.prog 164 = some [.own 0 [], .own 0 [], .own 0 []] := by kernel_rfl
theorem pla164 : placesT Tryz.prog 164 = some [(0, 1), (1, 1), (2, 1)] := by kernel_rfl
theorem con164 : concT Tryz.prog 164 = true := by kernel_rfl
theorem fld164_0 : fieldT Tryz.prog 164 0 = some (false, 0, 1) := by kernel_rfl
theorem fld164_1 : fieldT Tryz.prog 164 1 = some (false, 1, 1) := by kernel_rfl
theorem fld164_2 : fieldT Tryz.prog 164 2 = some (false, 2, 1) := by kernel_rfl
-- 165: proofprogramsref11.checker
theorem lay165 : layT Tryz.prog 165 = some (true, 3) := by kernel_rfl
theorem zer165 : zeroT Tryz.prog 165 = some [.own 0 [], .own 0 [], .own 0 []] := by kernel_rfl
theorem pla165 : placesT Tryz.prog 165 = some [(0, 1), (1, 1), (2, 1)] := by kernel_rfl
theorem con165 : concT Tryz.prog 165 = true := by kernel_rfl
theorem fld165_0 : fieldT Tryz.prog 165 0 = some (false, 0, 1) := by kernel_rfl
theorem fld165_1 : fieldT Tryz.prog 165 1 = some (false, 1, 1) := by kernel_rfl
theorem fld165_2 : fieldT Tryz.prog 165 2 = some (false, 2, 1) := by kernel_rfl
-- 166: func(api.Proof) (api.Proved, api.Errno)
theorem lay166 : layT Tryz.prog 166 = some (false, 1) := by kernel_rfl
theorem zer166 : zeroT Tryz.prog 166 = some [.v (.prim .nilFunc)] := by kernel_rfl
theorem con166 : concT Tryz.prog 166 = true := by kernel_rfl
-- 167: func(api.Formula) api.Formula
theorem lay167 : layT Tryz.prog 167 = some (false, 1) := by kernel_rfl
theorem zer167 : zeroT Tryz.prog 167 = some [.v (.prim .nilFunc)] := by kernel_rfl
theorem con167 : concT Tryz.prog 167 = true := by kernel_rfl
-- 168: func(api.Formula) (api.Type, api.Errno)
theorem lay168 : layT Tryz.prog 168 = some (false, 1) := by kernel_rfl
theorem zer168 : zeroT Tryz.prog 168 = some [.v (.prim .nilFunc)] := by kernel_rfl
theorem con168 : concT Tryz.prog 168 = true := by kernel_rfl
-- 169: func(api.Formula) (bool, api.Errno)
theorem lay169 : layT Tryz.prog 169 = some (false, 1) := by kernel_rfl
theorem zer169 : zeroT Tryz.prog 169 = some [.v (.prim .nilFunc)] := by kernel_rfl
theorem con169 : concT Tryz.prog 169 = true := by kernel_rfl
-- 170: func() int
theorem lay170 : layT Tryz.prog 170 = some (false, 1) := by kernel_rfl
theorem zer170 : zeroT Tryz.prog 170 = some [.v (.prim .nilFunc)] := by kernel_rfl
theorem con170 : concT Tryz.prog 170 = true := by kernel_rfl
-- 171: func(api.Term, api.Errno) (api.Term, api.Errno)
theorem lay171 : layT Tryz.prog 171 = some (false, 1) := by kernel_rfl
theorem zer171 : zeroT Tryz.prog 171 = some [.v (.prim .nilFunc)] := by kernel_rfl
theorem con171 : concT Tryz.prog 171 = true := by kernel_rfl
-- 172: func(api.Term) bool
theorem lay172 : layT Tryz.prog 172 = some (false, 1) := by kernel_rfl
theorem zer172 : zeroT Tryz.prog 172 = some [.v (.prim .nilFunc)] := by kernel_rfl
theorem con172 : concT Tryz.prog 172 = true := by kernel_rfl
-- 173: func(func(*majorant.maker) api.Term) (api.Term, api.Errno)
theorem lay173 : layT Tryz.prog 173 = some (false, 1) := by kernel_rfl
theorem zer173 : zeroT Tryz.prog 173 = some [.v (.prim .nilFunc)] := by kernel_rfl
theorem con173 : concT Tryz.prog 173 = true := by kernel_rfl
-- 174: *majorant.maker
theorem lay174 : layT Tryz.prog 174 = some (false, 1) := by kernel_rfl
theorem zer174 : zeroT Tryz.prog 174 = some [.v (.prim (.pointer none))] := by kernel_rfl
theorem ptr174 : ptrT Tryz.prog 174 = true := by kernel_rfl
theorem zrp174 : zeroP Tryz.prog 174 = some (.pointer none) := by kernel_rfl
theorem con174 : concT Tryz.prog 174 = true := by kernel_rfl
-- 175: func(*majorant.maker) api.Term
theorem lay175 : layT Tryz.prog 175 = some (false, 1) := by kernel_rfl
theorem zer175 : zeroT Tryz.prog 175 = some [.v (.prim .nilFunc)] := by kernel_rfl
theorem con175 : concT Tryz.prog 175 = true := by kernel_rfl
-- 176: *machine.cell
theorem lay176 : layT Tryz.prog 176 = some (false, 1) := by kernel_rfl
theorem zer176 : zeroT Tryz.prog 176 = some [.v (.prim (.pointer none))] := by kernel_rfl
theorem ptr176 : ptrT Tryz.prog 176 = true := by kernel_rfl
theorem zrp176 : zeroP Tryz.prog 176 = some (.pointer none) := by kernel_rfl
theorem con176 : concT Tryz.prog 176 = true := by kernel_rfl
-- 177: func(func(int, int) bool)
theorem lay177 : layT Tryz.prog 177 = some (false, 1) := by kernel_rfl
theorem zer177 : zeroT Tryz.prog 177 = some [.v (.prim .nilFunc)] := by kernel_rfl
theorem con177 : concT Tryz.prog 177 = true := by kernel_rfl
-- 178: iter.Seq2[int,int]
theorem lay178 : layT Tryz.prog 178 = some (false, 1) := by kernel_rfl
theorem zer178 : zeroT Tryz.prog 178 = some [.v (.prim .nilFunc)] := by kernel_rfl
theorem con178 : concT Tryz.prog 178 = true := by kernel_rfl
-- 179: func([]int) iter.Seq2[int,int]
theorem lay179 : layT Tryz.prog 179 = some (false, 1) := by kernel_rfl
theorem zer179 : zeroT Tryz.prog 179 = some [.v (.prim .nilFunc)] := by kernel_rfl
theorem con179 : concT Tryz.prog 179 = true := by kernel_rfl
-- 180: struct { head int; tail *machine.cell }
theorem lay180 : layT Tryz.prog 180 = some (true, 2) := by kernel_rfl
theorem zer180 : zeroT Tryz.prog 180 = some [.v (.prim (.int .i64 (0))), .v (.prim (.pointer none))] := by kernel_rfl
theorem pla180 : placesT Tryz.prog 180 = some [(0, 1), (1, 1)] := by kernel_rfl
theorem con180 : concT Tryz.prog 180 = true := by kernel_rfl
theorem fld180_0 : fieldT Tryz.prog 180 0 = some (false, 0, 1) := by kernel_rfl
theorem fld180_1 : fieldT Tryz.prog 180 1 = some (false, 1, 1) := by kernel_rfl
-- 181: machine.cell
theorem lay181 : layT Tryz.prog 181 = some (true, 2) := by kernel_rfl
theorem zer181 : zeroT Tryz.prog 181 = some [.v (.prim (.int .i64 (0))), .v (.prim (.pointer none))] := by kernel_rfl
theorem pla181 : placesT Tryz.prog 181 = some [(0, 1), (1, 1)] := by kernel_rfl
theorem con181 : concT Tryz.prog 181 = true := by kernel_rfl
theorem fld181_0 : fieldT Tryz.prog 181 0 = some (false, 0, 1) := by kernel_rfl
theorem fld181_1 : fieldT Tryz.prog 181 1 = some (false, 1, 1) := by kernel_rfl
-- 182: *machine.both
theorem lay182 : layT Tryz.prog 182 = some (false, 1) := by kernel_rfl
theorem zer182 : zeroT Tryz.prog 182 = some [.v (.prim (.pointer none))] := by kernel_rfl
theorem ptr182 : ptrT Tryz.prog 182 = true := by kernel_rfl
theorem zrp182 : zeroP Tryz.prog 182 = some (.pointer none) := by kernel_rfl
theorem con182 : concT Tryz.prog 182 = true := by kernel_rfl
-- 183: struct { first machine.thing; second machine.thing }
theorem lay183 : layT Tryz.prog 183 = some (true, 2) := by kernel_rfl
theorem zer183 : zeroT Tryz.prog 183 = some [.v (.prim .nilIface), .v (.prim .nilIface)] := by kernel_rfl
theorem pla183 : placesT Tryz.prog 183 = some [(0, 1), (1, 1)] := by kernel_rfl
theorem con183 : concT Tryz.prog 183 = true := by kernel_rfl
theorem fld183_0 : fieldT Tryz.prog 183 0 = some (false, 0, 1) := by kernel_rfl
theorem fld183_1 : fieldT Tryz.prog 183 1 = some (false, 1, 1) := by kernel_rfl
-- 184: machine.both
theorem lay184 : layT Tryz.prog 184 = some (true, 2) := by kernel_rfl
theorem zer184 : zeroT Tryz.prog 184 = some [.v (.prim .nilIface), .v (.prim .nilIface)] := by kernel_rfl
theorem pla184 : placesT Tryz.prog 184 = some [(0, 1), (1, 1)] := by kernel_rfl
theorem con184 : concT Tryz.prog 184 = true := by kernel_rfl
theorem fld184_0 : fieldT Tryz.prog 184 0 = some (false, 0, 1) := by kernel_rfl
theorem fld184_1 : fieldT Tryz.prog 184 1 = some (false, 1, 1) := by kernel_rfl
-- 185: struct {}
theorem lay185 : layT Tryz.prog 185 = some (true, 0) := by kernel_rfl
theorem zer185 : zeroT Tryz.prog 185 = some [] := by kernel_rfl
theorem pla185 : placesT Tryz.prog 185 = some [] := by kernel_rfl
theorem con185 : concT Tryz.prog 185 = true := by kernel_rfl
-- 186: machine.unit
theorem lay186 : layT Tryz.prog 186 = some (true, 0) := by kernel_rfl
theorem zer186 : zeroT Tryz.prog 186 = some [] := by kernel_rfl
theorem pla186 : placesT Tryz.prog 186 = some [] := by kernel_rfl
theorem con186 : concT Tryz.prog 186 = true := by kernel_rfl
-- 187: func(func(api.Type) bool)
theorem lay187 : layT Tryz.prog 187 = some (false, 1) := by kernel_rfl
theorem zer187 : zeroT Tryz.prog 187 = some [.v (.prim .nilFunc)] := by kernel_rfl
theorem con187 : concT Tryz.prog 187 = true := by kernel_rfl
-- 188: iter.Seq[proofprograms/api.Type]
theorem lay188 : layT Tryz.prog 188 = some (false, 1) := by kernel_rfl
theorem zer188 : zeroT Tryz.prog 188 = some [.v (.prim .nilFunc)] := by kernel_rfl
theorem con188 : concT Tryz.prog 188 = true := by kernel_rfl
-- 189: func(api.Type) iter.Seq[proofprograms/api.Type]
theorem lay189 : layT Tryz.prog 189 = some (false, 1) := by kernel_rfl
theorem zer189 : zeroT Tryz.prog 189 = some [.v (.prim .nilFunc)] := by kernel_rfl
theorem con189 : concT Tryz.prog 189 = true := by kernel_rfl
-- 190: *machine.env
theorem lay190 : layT Tryz.prog 190 = some (false, 1) := by kernel_rfl
theorem zer190 : zeroT Tryz.prog 190 = some [.v (.prim (.pointer none))] := by kernel_rfl
theorem ptr190 : ptrT Tryz.prog 190 = true := by kernel_rfl
theorem zrp190 : zeroP Tryz.prog 190 = some (.pointer none) := by kernel_rfl
theorem con190 : concT Tryz.prog 190 = true := by kernel_rfl
-- 191: func(int) machine.thing
theorem lay191 : layT Tryz.prog 191 = some (false, 1) := by kernel_rfl
theorem zer191 : zeroT Tryz.prog 191 = some [.v (.prim .nilFunc)] := by kernel_rfl
theorem con191 : concT Tryz.prog 191 = true := by kernel_rfl
-- 192: *machine.closure
theorem lay192 : layT Tryz.prog 192 = some (false, 1) := by kernel_rfl
theorem zer192 : zeroT Tryz.prog 192 = some [.v (.prim (.pointer none))] := by kernel_rfl
theorem ptr192 : ptrT Tryz.prog 192 = true := by kernel_rfl
theorem zrp192 : zeroP Tryz.prog 192 = some (.pointer none) := by kernel_rfl
theorem con192 : concT Tryz.prog 192 = true := by kernel_rfl
-- 193: struct { body api.Term; env *machine.env }
theorem lay193 : layT Tryz.prog 193 = some (true, 6) := by kernel_rfl
theorem zer193 : zeroT Tryz.prog 193 = some [.v (.prim (.int .i64 (0))), .v (.prim (.int .i64 (0))), .v (.prim (.int .i64 (0))), .own 0 [], .own 0 [], .v (.prim (.pointer none))] := by kernel_rfl
theorem pla193 : placesT Tryz.prog 193 = some [(0, 5), (5, 1)] := by kernel_rfl
theorem con193 : concT Tryz.prog 193 = true := by kernel_rfl
theorem fld193_0 : fieldT Tryz.prog 193 0 = some (true, 0, 5) := by kernel_rfl
theorem fld193_1 : fieldT Tryz.prog 193 1 = some (false, 5, 1) := by kernel_rfl
-- 194: machine.closure
theorem lay194 : layT Tryz.prog 194 = some (true, 6) := by kernel_rfl
theorem zer194 : zeroT Tryz.prog 194 = some [.v (.prim (.int .i64 (0))), .v (.prim (.int .i64 (0))), .v (.prim (.int .i64 (0))), .own 0 [], .own 0 [], .v (.prim (.pointer none))] := by kernel_rfl
theorem pla194 : placesT Tryz.prog 194 = some [(0, 5), (5, 1)] := by kernel_rfl
theorem con194 : concT Tryz.prog 194 = true := by kernel_rfl
theorem fld194_0 : fieldT Tryz.prog 194 0 = some (true, 0, 5) := by kernel_rfl
theorem fld194_1 : fieldT Tryz.prog 194 1 = some (false, 5, 1) := by kernel_rfl
-- 195: [3]machine.thing
theorem lay195 : layT Tryz.prog 195 = some (true, 3) := by kernel_rfl
theorem zer195 : zeroT Tryz.prog 195 = some [.v (.prim .nilIface), .v (.prim .nilIface), .v (.prim .nilIface)] := by kernel_rfl
theorem eln195 : elemT Tryz.prog 195 = none := by kernel_rfl
theorem arr195 : arrT Tryz.prog 195 = some (3, 1) := by kernel_rfl
theorem pla195 : placesT Tryz.prog 195 = some [(0, 1), (1, 1), (2, 1)] := by kernel_rfl
theorem con195 : concT Tryz.prog 195 = true := by kernel_rfl
-- 196: ([3]machine.thing, bool)
theorem lay196 : layT Tryz.prog 196 = some (false, 1) := by kernel_rfl
theorem con196 : concT Tryz.prog 196 = true := by kernel_rfl
-- 197: func([]api.Term, *machine.env) ([3]machine.thing, bool)
theorem lay197 : layT Tryz.prog 197 = some (false, 1) := by kernel_rfl
theorem zer197 : zeroT Tryz.prog 197 = some [.v (.prim .nilFunc)] := by kernel_rfl
theorem con197 : concT Tryz.prog 197 = true := by kernel_rfl
-- 198: func([3]machine.thing) (machine.thing, bool)
theorem lay198 : layT Tryz.prog 198 = some (false, 1) := by kernel_rfl
theorem zer198 : zeroT Tryz.prog 198 = some [.v (.prim .nilFunc)] := by kernel_rfl
theorem con198 : concT Tryz.prog 198 = true := by kernel_rfl
-- 199: struct { value machine.thing; next *machine.env }
theorem lay199 : layT Tryz.prog 199 = some (true, 2) := by kernel_rfl
theorem zer199 : zeroT Tryz.prog 199 = some [.v (.prim .nilIface), .v (.prim (.pointer none))] := by kernel_rfl
theorem pla199 : placesT Tryz.prog 199 = some [(0, 1), (1, 1)] := by kernel_rfl
theorem con199 : concT Tryz.prog 199 = true := by kernel_rfl
theorem fld199_0 : fieldT Tryz.prog 199 0 = some (false, 0, 1) := by kernel_rfl
theorem fld199_1 : fieldT Tryz.prog 199 1 = some (false, 1, 1) := by kernel_rfl
-- 200: machine.env
theorem lay200 : layT Tryz.prog 200 = some (true, 2) := by kernel_rfl
theorem zer200 : zeroT Tryz.prog 200 = some [.v (.prim .nilIface), .v (.prim (.pointer none))] := by kernel_rfl
theorem pla200 : placesT Tryz.prog 200 = some [(0, 1), (1, 1)] := by kernel_rfl
theorem con200 : concT Tryz.prog 200 = true := by kernel_rfl
theorem fld200_0 : fieldT Tryz.prog 200 0 = some (false, 0, 1) := by kernel_rfl
theorem fld200_1 : fieldT Tryz.prog 200 1 = some (false, 1, 1) := by kernel_rfl
-- 201: (int, bool)
theorem lay201 : layT Tryz.prog 201 = some (false, 1) := by kernel_rfl
theorem con201 : concT Tryz.prog 201 = true := by kernel_rfl
-- 202: func(api.Value) (int, bool)
theorem lay202 : layT Tryz.prog 202 = some (false, 1) := by kernel_rfl
theorem zer202 : zeroT Tryz.prog 202 = some [.v (.prim .nilFunc)] := by kernel_rfl
theorem con202 : concT Tryz.prog 202 = true := by kernel_rfl
-- 203: (int, api.Errno)
theorem lay203 : layT Tryz.prog 203 = some (false, 1) := by kernel_rfl
theorem con203 : concT Tryz.prog 203 = true := by kernel_rfl
-- 204: func(api.Term) (int, api.Errno)
theorem lay204 : layT Tryz.prog 204 = some (false, 1) := by kernel_rfl
theorem zer204 : zeroT Tryz.prog 204 = some [.v (.prim .nilFunc)] := by kernel_rfl
theorem con204 : concT Tryz.prog 204 = true := by kernel_rfl
-- 205: func(api.Type) typing.Sized
theorem lay205 : layT Tryz.prog 205 = some (false, 1) := by kernel_rfl
theorem zer205 : zeroT Tryz.prog 205 = some [.v (.prim .nilFunc)] := by kernel_rfl
theorem con205 : concT Tryz.prog 205 = true := by kernel_rfl
-- 206: func(int, typing.Sized, typing.Sized) (typing.Sized, api.Errno)
theorem lay206 : layT Tryz.prog 206 = some (false, 1) := by kernel_rfl
theorem zer206 : zeroT Tryz.prog 206 = some [.v (.prim .nilFunc)] := by kernel_rfl
theorem con206 : concT Tryz.prog 206 = true := by kernel_rfl
-- 207: [3]typing.Sized
theorem lay207 : layT Tryz.prog 207 = some (true, 9) := by kernel_rfl
theorem zer207 : zeroT Tryz.prog 207 = some [.v (.prim (.int .i64 (0))), .own 0 [], .v (.prim (.int .i64 (0))), .v (.prim (.int .i64 (0))), .own 0 [], .v (.prim (.int .i64 (0))), .v (.prim (.int .i64 (0))), .own 0 [], .v (.prim (.int .i64 (0)))] := by kernel_rfl
theorem eln207 : elemT Tryz.prog 207 = none := by kernel_rfl
theorem arr207 : arrT Tryz.prog 207 = some (3, 3) := by kernel_rfl
theorem pla207 : placesT Tryz.prog 207 = some [(0, 3), (3, 3), (6, 3)] := by kernel_rfl
theorem con207 : concT Tryz.prog 207 = true := by kernel_rfl
-- 208: func(api.Term, [3]typing.Sized) (typing.Sized, api.Errno)
theorem lay208 : layT Tryz.prog 208 = some (false, 1) := by kernel_rfl
theorem zer208 : zeroT Tryz.prog 208 = some [.v (.prim .nilFunc)] := by kernel_rfl
theorem con208 : concT Tryz.prog 208 = true := by kernel_rfl
-- 209: func(api.Value) bool
theorem lay209 : layT Tryz.prog 209 = some (false, 1) := by kernel_rfl
theorem zer209 : zeroT Tryz.prog 209 = some [.v (.prim .nilFunc)] := by kernel_rfl
theorem con209 : concT Tryz.prog 209 = true := by kernel_rfl
-- 210: func(api.Value) int
theorem lay210 : layT Tryz.prog 210 = some (false, 1) := by kernel_rfl
theorem zer210 : zeroT Tryz.prog 210 = some [.v (.prim .nilFunc)] := by kernel_rfl
theorem con210 : concT Tryz.prog 210 = true := by kernel_rfl
-- 211: func(api.Type) bool
theorem lay211 : layT Tryz.prog 211 = some (false, 1) := by kernel_rfl
theorem zer211 : zeroT Tryz.prog 211 = some [.v (.prim .nilFunc)] := by kernel_rfl
theorem con211 : concT Tryz.prog 211 = true := by kernel_rfl
-- 212: func(api.Term, int, int) api.Term
theorem lay212 : layT Tryz.prog 212 = some (false, 1) := by kernel_rfl
theorem zer212 : zeroT Tryz.prog 212 = some [.v (.prim .nilFunc)] := by kernel_rfl
theorem con212 : concT Tryz.prog 212 = true := by kernel_rfl
-- 213: func(api.Formula) api.Errno
theorem lay213 : layT Tryz.prog 213 = some (false, 1) := by kernel_rfl
theorem zer213 : zeroT Tryz.prog 213 = some [.v (.prim .nilFunc)] := by kernel_rfl
theorem con213 : concT Tryz.prog 213 = true := by kernel_rfl
-- 214: func(api.Formula, api.Formula) api.Errno
theorem lay214 : layT Tryz.prog 214 = some (false, 1) := by kernel_rfl
theorem zer214 : zeroT Tryz.prog 214 = some [.v (.prim .nilFunc)] := by kernel_rfl
theorem con214 : concT Tryz.prog 214 = true := by kernel_rfl
-- 215: func([]api.Type, api.Formula) api.Errno
theorem lay215 : layT Tryz.prog 215 = some (false, 1) := by kernel_rfl
theorem zer215 : zeroT Tryz.prog 215 = some [.v (.prim .nilFunc)] := by kernel_rfl
theorem con215 : concT Tryz.prog 215 = true := by kernel_rfl
-- 216: func(api.Proof) bool
theorem lay216 : layT Tryz.prog 216 = some (false, 1) := by kernel_rfl
theorem zer216 : zeroT Tryz.prog 216 = some [.v (.prim .nilFunc)] := by kernel_rfl
theorem con216 : concT Tryz.prog 216 = true := by kernel_rfl
-- 217: (api.Formula, []int, api.Errno)
theorem lay217 : layT Tryz.prog 217 = some (false, 1) := by kernel_rfl
theorem con217 : concT Tryz.prog 217 = true := by kernel_rfl
-- 218: func(api.Proof) (api.Formula, []int, api.Errno)
theorem lay218 : layT Tryz.prog 218 = some (false, 1) := by kernel_rfl
theorem zer218 : zeroT Tryz.prog 218 = some [.v (.prim .nilFunc)] := by kernel_rfl
theorem con218 : concT Tryz.prog 218 = true := by kernel_rfl
-- 219: func(api.Term, []api.Term) api.Term
theorem lay219 : layT Tryz.prog 219 = some (false, 1) := by kernel_rfl
theorem zer219 : zeroT Tryz.prog 219 = some [.v (.prim .nilFunc)] := by kernel_rfl
theorem con219 : concT Tryz.prog 219 = true := by kernel_rfl
-- 220: func(proofprogramsref25.Place, api.Proof) api.Formula
theorem lay220 : layT Tryz.prog 220 = some (false, 1) := by kernel_rfl
theorem zer220 : zeroT Tryz.prog 220 = some [.v (.prim .nilFunc)] := by kernel_rfl
theorem con220 : concT Tryz.prog 220 = true := by kernel_rfl
-- 221: func(proofprogramsref25.Place, api.Formula, api.Term) proofprogramsref25.Place
theorem lay221 : layT Tryz.prog 221 = some (false, 1) := by kernel_rfl
theorem zer221 : zeroT Tryz.prog 221 = some [.v (.prim .nilFunc)] := by kernel_rfl
theorem con221 : concT Tryz.prog 221 = true := by kernel_rfl
-- 222: func(api.Type, int, api.Term) api.Term
theorem lay222 : layT Tryz.prog 222 = some (false, 1) := by kernel_rfl
theorem zer222 : zeroT Tryz.prog 222 = some [.v (.prim .nilFunc)] := by kernel_rfl
theorem con222 : concT Tryz.prog 222 = true := by kernel_rfl
-- 223: func(proofprogramsref25.Place, api.Type, api.Term) proofprogramsref25.Place
theorem lay223 : layT Tryz.prog 223 = some (false, 1) := by kernel_rfl
theorem zer223 : zeroT Tryz.prog 223 = some [.v (.prim .nilFunc)] := by kernel_rfl
theorem con223 : concT Tryz.prog 223 = true := by kernel_rfl
-- 224: func(api.Type) api.Term
theorem lay224 : layT Tryz.prog 224 = some (false, 1) := by kernel_rfl
theorem zer224 : zeroT Tryz.prog 224 = some [.v (.prim .nilFunc)] := by kernel_rfl
theorem con224 : concT Tryz.prog 224 = true := by kernel_rfl
-- 225: (api.Type, api.Term, api.Term, api.Errno)
theorem lay225 : layT Tryz.prog 225 = some (false, 1) := by kernel_rfl
theorem con225 : concT Tryz.prog 225 = true := by kernel_rfl
-- 226: func(proofprogramsref25.Place, api.Proof) (api.Type, api.Term, api.Term, api.Errno)
theorem lay226 : layT Tryz.prog 226 = some (false, 1) := by kernel_rfl
theorem zer226 : zeroT Tryz.prog 226 = some [.v (.prim .nilFunc)] := by kernel_rfl
theorem con226 : concT Tryz.prog 226 = true := by kernel_rfl
-- 227: func(api.Proof, api.Type, api.Term, api.Term, api.Term) api.Term
theorem lay227 : layT Tryz.prog 227 = some (false, 1) := by kernel_rfl
theorem zer227 : zeroT Tryz.prog 227 = some [.v (.prim .nilFunc)] := by kernel_rfl
theorem con227 : concT Tryz.prog 227 = true := by kernel_rfl
-- 228: func(api.Term) int
theorem lay228 : layT Tryz.prog 228 = some (false, 1) := by kernel_rfl
theorem zer228 : zeroT Tryz.prog 228 = some [.v (.prim .nilFunc)] := by kernel_rfl
theorem con228 : concT Tryz.prog 228 = true := by kernel_rfl
-- 229: struct { err api.Errno }
theorem lay229 : layT Tryz.prog 229 = some (true, 1) := by kernel_rfl
theorem zer229 : zeroT Tryz.prog 229 = some [.v (.prim (.int .i64 (0)))] := by kernel_rfl
theorem pla229 : placesT Tryz.prog 229 = some [(0, 1)] := by kernel_rfl
theorem con229 : concT Tryz.prog 229 = true := by kernel_rfl
theorem fld229_0 : fieldT Tryz.prog 229 0 = some (false, 0, 1) := by kernel_rfl
-- 230: majorant.maker
theorem lay230 : layT Tryz.prog 230 = some (true, 1) := by kernel_rfl
theorem zer230 : zeroT Tryz.prog 230 = some [.v (.prim (.int .i64 (0)))] := by kernel_rfl
theorem pla230 : placesT Tryz.prog 230 = some [(0, 1)] := by kernel_rfl
theorem con230 : concT Tryz.prog 230 = true := by kernel_rfl
theorem fld230_0 : fieldT Tryz.prog 230 0 = some (false, 0, 1) := by kernel_rfl
-- 231: func(api.Type, api.Term, api.Term) api.Term
theorem lay231 : layT Tryz.prog 231 = some (false, 1) := by kernel_rfl
theorem zer231 : zeroT Tryz.prog 231 = some [.v (.prim .nilFunc)] := by kernel_rfl
theorem con231 : concT Tryz.prog 231 = true := by kernel_rfl
-- 232: func(int, int) bool
theorem lay232 : layT Tryz.prog 232 = some (false, 1) := by kernel_rfl
theorem zer232 : zeroT Tryz.prog 232 = some [.v (.prim .nilFunc)] := by kernel_rfl
theorem con232 : concT Tryz.prog 232 = true := by kernel_rfl
-- 233: func(api.Type) (int, api.Errno)
theorem lay233 : layT Tryz.prog 233 = some (false, 1) := by kernel_rfl
theorem zer233 : zeroT Tryz.prog 233 = some [.v (.prim .nilFunc)] := by kernel_rfl
theorem con233 : concT Tryz.prog 233 = true := by kernel_rfl
-- 234: []*machine.cell
theorem lay234 : layT Tryz.prog 234 = some (false, 1) := by kernel_rfl
theorem zer234 : zeroT Tryz.prog 234 = some [.own 0 []] := by kernel_rfl
theorem ele234 : elemT Tryz.prog 234 = some 1 := by kernel_rfl
theorem elz234 : elemZ Tryz.prog 234 = some (1, 8) := by kernel_rfl
theorem con234 : concT Tryz.prog 234 = true := by kernel_rfl
-- 235: func(func(int, *machine.cell) bool)
theorem lay235 : layT Tryz.prog 235 = some (false, 1) := by kernel_rfl
theorem zer235 : zeroT Tryz.prog 235 = some [.v (.prim .nilFunc)] := by kernel_rfl
theorem con235 : concT Tryz.prog 235 = true := by kernel_rfl
-- 236: iter.Seq2[int,*proofprograms/machine.cell]
theorem lay236 : layT Tryz.prog 236 = some (false, 1) := by kernel_rfl
theorem zer236 : zeroT Tryz.prog 236 = some [.v (.prim .nilFunc)] := by kernel_rfl
theorem con236 : concT Tryz.prog 236 = true := by kernel_rfl
-- 237: func([]*machine.cell) iter.Seq2[int,*proofprograms/machine.cell]
theorem lay237 : layT Tryz.prog 237 = some (false, 1) := by kernel_rfl
theorem zer237 : zeroT Tryz.prog 237 = some [.v (.prim .nilFunc)] := by kernel_rfl
theorem con237 : concT Tryz.prog 237 = true := by kernel_rfl
-- 238: func(int) bool
theorem lay238 : layT Tryz.prog 238 = some (false, 1) := by kernel_rfl
theorem zer238 : zeroT Tryz.prog 238 = some [.v (.prim .nilFunc)] := by kernel_rfl
theorem con238 : concT Tryz.prog 238 = true := by kernel_rfl
-- 239: func([]int, func(int) bool) bool
theorem lay239 : layT Tryz.prog 239 = some (false, 1) := by kernel_rfl
theorem zer239 : zeroT Tryz.prog 239 = some [.v (.prim .nilFunc)] := by kernel_rfl
theorem con239 : concT Tryz.prog 239 = true := by kernel_rfl
-- 240: func(api.Term) (int, bool)
theorem lay240 : layT Tryz.prog 240 = some (false, 1) := by kernel_rfl
theorem zer240 : zeroT Tryz.prog 240 = some [.v (.prim .nilFunc)] := by kernel_rfl
theorem con240 : concT Tryz.prog 240 = true := by kernel_rfl
-- 241: func(int) []int
theorem lay241 : layT Tryz.prog 241 = some (false, 1) := by kernel_rfl
theorem zer241 : zeroT Tryz.prog 241 = some [.v (.prim .nilFunc)] := by kernel_rfl
theorem con241 : concT Tryz.prog 241 = true := by kernel_rfl
-- 242: func(int) typing.Sized
theorem lay242 : layT Tryz.prog 242 = some (false, 1) := by kernel_rfl
theorem zer242 : zeroT Tryz.prog 242 = some [.v (.prim .nilFunc)] := by kernel_rfl
theorem con242 : concT Tryz.prog 242 = true := by kernel_rfl
-- 243: func(typing.Sized) bool
theorem lay243 : layT Tryz.prog 243 = some (false, 1) := by kernel_rfl
theorem zer243 : zeroT Tryz.prog 243 = some [.v (.prim .nilFunc)] := by kernel_rfl
theorem con243 : concT Tryz.prog 243 = true := by kernel_rfl
-- 244: func(api.Term) api.Type
theorem lay244 : layT Tryz.prog 244 = some (false, 1) := by kernel_rfl
theorem zer244 : zeroT Tryz.prog 244 = some [.v (.prim .nilFunc)] := by kernel_rfl
theorem con244 : concT Tryz.prog 244 = true := by kernel_rfl
-- 245: func(api.Type) (api.Type, api.Errno)
theorem lay245 : layT Tryz.prog 245 = some (false, 1) := by kernel_rfl
theorem zer245 : zeroT Tryz.prog 245 = some [.v (.prim .nilFunc)] := by kernel_rfl
theorem con245 : concT Tryz.prog 245 = true := by kernel_rfl
-- 246: func(api.Formula) int
theorem lay246 : layT Tryz.prog 246 = some (false, 1) := by kernel_rfl
theorem zer246 : zeroT Tryz.prog 246 = some [.v (.prim .nilFunc)] := by kernel_rfl
theorem con246 : concT Tryz.prog 246 = true := by kernel_rfl
-- 247: struct { terms int; forms int; args int; index bool; typ bool }
theorem lay247 : layT Tryz.prog 247 = some (true, 5) := by kernel_rfl
theorem zer247 : zeroT Tryz.prog 247 = some [.v (.prim (.int .i64 (0))), .v (.prim (.int .i64 (0))), .v (.prim (.int .i64 (0))), .v (.prim (.bool false)), .v (.prim (.bool false))] := by kernel_rfl
theorem pla247 : placesT Tryz.prog 247 = some [(0, 1), (1, 1), (2, 1), (3, 1), (4, 1)] := by kernel_rfl
theorem con247 : concT Tryz.prog 247 = true := by kernel_rfl
theorem fld247_0 : fieldT Tryz.prog 247 0 = some (false, 0, 1) := by kernel_rfl
theorem fld247_1 : fieldT Tryz.prog 247 1 = some (false, 1, 1) := by kernel_rfl
theorem fld247_2 : fieldT Tryz.prog 247 2 = some (false, 2, 1) := by kernel_rfl
theorem fld247_3 : fieldT Tryz.prog 247 3 = some (false, 3, 1) := by kernel_rfl
theorem fld247_4 : fieldT Tryz.prog 247 4 = some (false, 4, 1) := by kernel_rfl
-- 248: proofprogramsref10.node
theorem lay248 : layT Tryz.prog 248 = some (true, 5) := by kernel_rfl
theorem zer248 : zeroT Tryz.prog 248 = some [.v (.prim (.int .i64 (0))), .v (.prim (.int .i64 (0))), .v (.prim (.int .i64 (0))), .v (.prim (.bool false)), .v (.prim (.bool false))] := by kernel_rfl
theorem pla248 : placesT Tryz.prog 248 = some [(0, 1), (1, 1), (2, 1), (3, 1), (4, 1)] := by kernel_rfl
theorem con248 : concT Tryz.prog 248 = true := by kernel_rfl
theorem fld248_0 : fieldT Tryz.prog 248 0 = some (false, 0, 1) := by kernel_rfl
theorem fld248_1 : fieldT Tryz.prog 248 1 = some (false, 1, 1) := by kernel_rfl
theorem fld248_2 : fieldT Tryz.prog 248 2 = some (false, 2, 1) := by kernel_rfl
theorem fld248_3 : fieldT Tryz.prog 248 3 = some (false, 3, 1) := by kernel_rfl
theorem fld248_4 : fieldT Tryz.prog 248 4 = some (false, 4, 1) := by kernel_rfl
-- 249: (proofprogramsref10.node, bool)
theorem lay249 : layT Tryz.prog 249 = some (false, 1) := by kernel_rfl
theorem con249 : concT Tryz.prog 249 = true := by kernel_rfl
-- 250: func(int) (proofprogramsref10.node, bool)
theorem lay250 : layT Tryz.prog 250 = some (false, 1) := by kernel_rfl
theorem zer250 : zeroT Tryz.prog 250 = some [.v (.prim .nilFunc)] := by kernel_rfl
theorem con250 : concT Tryz.prog 250 = true := by kernel_rfl
-- 251: func(api.Proof) int
theorem lay251 : layT Tryz.prog 251 = some (false, 1) := by kernel_rfl
theorem zer251 : zeroT Tryz.prog 251 = some [.v (.prim .nilFunc)] := by kernel_rfl
theorem con251 : concT Tryz.prog 251 = true := by kernel_rfl
-- 252: func(int, api.Formula, api.Formula) api.Formula
theorem lay252 : layT Tryz.prog 252 = some (false, 1) := by kernel_rfl
theorem zer252 : zeroT Tryz.prog 252 = some [.v (.prim .nilFunc)] := by kernel_rfl
theorem con252 : concT Tryz.prog 252 = true := by kernel_rfl
-- 253: func([]int, []int) []int
theorem lay253 : layT Tryz.prog 253 = some (false, 1) := by kernel_rfl
theorem zer253 : zeroT Tryz.prog 253 = some [.v (.prim .nilFunc)] := by kernel_rfl
theorem con253 : concT Tryz.prog 253 = true := by kernel_rfl
-- 254: func(int, int) api.Errno
theorem lay254 : layT Tryz.prog 254 = some (false, 1) := by kernel_rfl
theorem zer254 : zeroT Tryz.prog 254 = some [.v (.prim .nilFunc)] := by kernel_rfl
theorem con254 : concT Tryz.prog 254 = true := by kernel_rfl
-- 255: func(api.Formula) proofprogramsref11.checker
theorem lay255 : layT Tryz.prog 255 = some (false, 1) := by kernel_rfl
theorem zer255 : zeroT Tryz.prog 255 = some [.v (.prim .nilFunc)] := by kernel_rfl
theorem con255 : concT Tryz.prog 255 = true := by kernel_rfl
-- 256: func(api.Term, int) api.Errno
theorem lay256 : layT Tryz.prog 256 = some (false, 1) := by kernel_rfl
theorem zer256 : zeroT Tryz.prog 256 = some [.v (.prim .nilFunc)] := by kernel_rfl
theorem con256 : concT Tryz.prog 256 = true := by kernel_rfl
-- 257: func(api.Type, api.Errno) (api.Type, api.Errno)
theorem lay257 : layT Tryz.prog 257 = some (false, 1) := by kernel_rfl
theorem zer257 : zeroT Tryz.prog 257 = some [.v (.prim .nilFunc)] := by kernel_rfl
theorem con257 : concT Tryz.prog 257 = true := by kernel_rfl
-- 258: func([]api.Term, api.Term) []api.Term
theorem lay258 : layT Tryz.prog 258 = some (false, 1) := by kernel_rfl
theorem zer258 : zeroT Tryz.prog 258 = some [.v (.prim .nilFunc)] := by kernel_rfl
theorem con258 : concT Tryz.prog 258 = true := by kernel_rfl
-- 259: (api.Formula, api.Errno)
theorem lay259 : layT Tryz.prog 259 = some (false, 1) := by kernel_rfl
theorem con259 : concT Tryz.prog 259 = true := by kernel_rfl
-- 260: func(api.Formula, int, int) (api.Formula, api.Errno)
theorem lay260 : layT Tryz.prog 260 = some (false, 1) := by kernel_rfl
theorem zer260 : zeroT Tryz.prog 260 = some [.v (.prim .nilFunc)] := by kernel_rfl
theorem con260 : concT Tryz.prog 260 = true := by kernel_rfl
-- 261: func(api.Type) (api.Term, api.Errno)
theorem lay261 : layT Tryz.prog 261 = some (false, 1) := by kernel_rfl
theorem zer261 : zeroT Tryz.prog 261 = some [.v (.prim .nilFunc)] := by kernel_rfl
theorem con261 : concT Tryz.prog 261 = true := by kernel_rfl
-- 262: func(proofprogramsref25.Place, api.Proof, []int, api.Term) proofprogramsref25.Place
theorem lay262 : layT Tryz.prog 262 = some (false, 1) := by kernel_rfl
theorem zer262 : zeroT Tryz.prog 262 = some [.v (.prim .nilFunc)] := by kernel_rfl
theorem con262 : concT Tryz.prog 262 = true := by kernel_rfl
-- 263: func(int, api.Type, ...api.Term) (api.Term, api.Errno)
theorem lay263 : layT Tryz.prog 263 = some (false, 1) := by kernel_rfl
theorem zer263 : zeroT Tryz.prog 263 = some [.v (.prim .nilFunc)] := by kernel_rfl
theorem con263 : concT Tryz.prog 263 = true := by kernel_rfl
-- 264: func(api.Type) (int, bool)
theorem lay264 : layT Tryz.prog 264 = some (false, 1) := by kernel_rfl
theorem zer264 : zeroT Tryz.prog 264 = some [.v (.prim .nilFunc)] := by kernel_rfl
theorem con264 : concT Tryz.prog 264 = true := by kernel_rfl
-- 265: func(int, *machine.cell) bool
theorem lay265 : layT Tryz.prog 265 = some (false, 1) := by kernel_rfl
theorem zer265 : zeroT Tryz.prog 265 = some [.v (.prim .nilFunc)] := by kernel_rfl
theorem con265 : concT Tryz.prog 265 = true := by kernel_rfl
-- 266: func([]int, func(int) bool) int
theorem lay266 : layT Tryz.prog 266 = some (false, 1) := by kernel_rfl
theorem zer266 : zeroT Tryz.prog 266 = some [.v (.prim .nilFunc)] := by kernel_rfl
theorem con266 : concT Tryz.prog 266 = true := by kernel_rfl
-- 267: func(int) (int, bool)
theorem lay267 : layT Tryz.prog 267 = some (false, 1) := by kernel_rfl
theorem zer267 : zeroT Tryz.prog 267 = some [.v (.prim .nilFunc)] := by kernel_rfl
theorem con267 : concT Tryz.prog 267 = true := by kernel_rfl
-- 268: func(api.Type, ...api.Type) api.Type
theorem lay268 : layT Tryz.prog 268 = some (false, 1) := by kernel_rfl
theorem zer268 : zeroT Tryz.prog 268 = some [.v (.prim .nilFunc)] := by kernel_rfl
theorem con268 : concT Tryz.prog 268 = true := by kernel_rfl
-- 269: func(api.Term, api.Term, int) api.Errno
theorem lay269 : layT Tryz.prog 269 = some (false, 1) := by kernel_rfl
theorem zer269 : zeroT Tryz.prog 269 = some [.v (.prim .nilFunc)] := by kernel_rfl
theorem con269 : concT Tryz.prog 269 = true := by kernel_rfl
-- 270: map[int]bool
theorem lay270 : layT Tryz.prog 270 = some (false, 1) := by kernel_rfl
theorem zer270 : zeroT Tryz.prog 270 = some [.v (.prim (.map none))] := by kernel_rfl
theorem con270 : concT Tryz.prog 270 = true := by kernel_rfl
-- 271: func(map[int]bool) []int
theorem lay271 : layT Tryz.prog 271 = some (false, 1) := by kernel_rfl
theorem zer271 : zeroT Tryz.prog 271 = some [.v (.prim .nilFunc)] := by kernel_rfl
theorem con271 : concT Tryz.prog 271 = true := by kernel_rfl
-- 272: func(...api.Type) proofprogramsref11.checker
theorem lay272 : layT Tryz.prog 272 = some (false, 1) := by kernel_rfl
theorem zer272 : zeroT Tryz.prog 272 = some [.v (.prim .nilFunc)] := by kernel_rfl
theorem con272 : concT Tryz.prog 272 = true := by kernel_rfl
-- 273: func(int, api.Type, api.Formula) api.Formula
theorem lay273 : layT Tryz.prog 273 = some (false, 1) := by kernel_rfl
theorem zer273 : zeroT Tryz.prog 273 = some [.v (.prim .nilFunc)] := by kernel_rfl
theorem con273 : concT Tryz.prog 273 = true := by kernel_rfl
-- 274: func([]int, int) []int
theorem lay274 : layT Tryz.prog 274 = some (false, 1) := by kernel_rfl
theorem zer274 : zeroT Tryz.prog 274 = some [.v (.prim .nilFunc)] := by kernel_rfl
theorem con274 : concT Tryz.prog 274 = true := by kernel_rfl
-- 275: func(api.Term) []int
theorem lay275 : layT Tryz.prog 275 = some (false, 1) := by kernel_rfl
theorem zer275 : zeroT Tryz.prog 275 = some [.v (.prim .nilFunc)] := by kernel_rfl
theorem con275 : concT Tryz.prog 275 = true := by kernel_rfl
-- 276: func(api.Formula, api.Term) (api.Formula, api.Errno)
theorem lay276 : layT Tryz.prog 276 = some (false, 1) := by kernel_rfl
theorem zer276 : zeroT Tryz.prog 276 = some [.v (.prim .nilFunc)] := by kernel_rfl
theorem con276 : concT Tryz.prog 276 = true := by kernel_rfl
-- 277: func(api.Proof, api.Formula, api.Term) ([]int, api.Errno)
theorem lay277 : layT Tryz.prog 277 = some (false, 1) := by kernel_rfl
theorem zer277 : zeroT Tryz.prog 277 = some [.v (.prim .nilFunc)] := by kernel_rfl
theorem con277 : concT Tryz.prog 277 = true := by kernel_rfl
-- 278: func(api.Formula, int) bool
theorem lay278 : layT Tryz.prog 278 = some (false, 1) := by kernel_rfl
theorem zer278 : zeroT Tryz.prog 278 = some [.v (.prim .nilFunc)] := by kernel_rfl
theorem con278 : concT Tryz.prog 278 = true := by kernel_rfl
-- 279: func(api.Formula) (api.Formula, api.Errno)
theorem lay279 : layT Tryz.prog 279 = some (false, 1) := by kernel_rfl
theorem zer279 : zeroT Tryz.prog 279 = some [.v (.prim .nilFunc)] := by kernel_rfl
theorem con279 : concT Tryz.prog 279 = true := by kernel_rfl
-- 280: func(api.Formula, int, int) api.Formula
theorem lay280 : layT Tryz.prog 280 = some (false, 1) := by kernel_rfl
theorem zer280 : zeroT Tryz.prog 280 = some [.v (.prim .nilFunc)] := by kernel_rfl
theorem con280 : concT Tryz.prog 280 = true := by kernel_rfl
-- 281: [14]int
theorem lay281 : layT Tryz.prog 281 = some (true, 14) := by kernel_rfl
theorem zer281 : zeroT Tryz.prog 281 = some [.v (.prim (.int .i64 (0))), .v (.prim (.int .i64 (0))), .v (.prim (.int .i64 (0))), .v (.prim (.int .i64 (0))), .v (.prim (.int .i64 (0))), .v (.prim (.int .i64 (0))), .v (.prim (.int .i64 (0))), .v (.prim (.int .i64 (0))), .v (.prim (.int .i64 (0))), .v (.prim (.int .i64 (0))), .v (.prim (.int .i64 (0))), .v (.prim (.int .i64 (0))), .v (.prim (.int .i64 (0))), .v (.prim (.int .i64 (0)))] := by kernel_rfl
theorem eln281 : elemT Tryz.prog 281 = none := by kernel_rfl
theorem arr281 : arrT Tryz.prog 281 = some (14, 1) := by kernel_rfl
theorem pla281 : placesT Tryz.prog 281 = some [(0, 1), (1, 1), (2, 1), (3, 1), (4, 1), (5, 1), (6, 1), (7, 1), (8, 1), (9, 1), (10, 1), (11, 1), (12, 1), (13, 1)] := by kernel_rfl
theorem con281 : concT Tryz.prog 281 = true := by kernel_rfl
-- 282: func(api.Term, api.Term) bool
theorem lay282 : layT Tryz.prog 282 = some (false, 1) := by kernel_rfl
theorem zer282 : zeroT Tryz.prog 282 = some [.v (.prim .nilFunc)] := by kernel_rfl
theorem con282 : concT Tryz.prog 282 = true := by kernel_rfl
-- 283: (api.Term, int, api.Errno)
theorem lay283 : layT Tryz.prog 283 = some (false, 1) := by kernel_rfl
theorem con283 : concT Tryz.prog 283 = true := by kernel_rfl
-- 284: func(api.Term, int) (api.Term, int, api.Errno)
theorem lay284 : layT Tryz.prog 284 = some (false, 1) := by kernel_rfl
theorem zer284 : zeroT Tryz.prog 284 = some [.v (.prim .nilFunc)] := by kernel_rfl
theorem con284 : concT Tryz.prog 284 = true := by kernel_rfl
-- 285: func(api.Term) ([]int, api.Errno)
theorem lay285 : layT Tryz.prog 285 = some (false, 1) := by kernel_rfl
theorem zer285 : zeroT Tryz.prog 285 = some [.v (.prim .nilFunc)] := by kernel_rfl
theorem con285 : concT Tryz.prog 285 = true := by kernel_rfl
-- 286: func(api.Formula, int, api.Term) (api.Formula, api.Errno)
theorem lay286 : layT Tryz.prog 286 = some (false, 1) := by kernel_rfl
theorem zer286 : zeroT Tryz.prog 286 = some [.v (.prim .nilFunc)] := by kernel_rfl
theorem con286 : concT Tryz.prog 286 = true := by kernel_rfl
-- 287: func(api.Term, int) bool
theorem lay287 : layT Tryz.prog 287 = some (false, 1) := by kernel_rfl
theorem zer287 : zeroT Tryz.prog 287 = some [.v (.prim .nilFunc)] := by kernel_rfl
theorem con287 : concT Tryz.prog 287 = true := by kernel_rfl
-- 288: (api.Term, bool, bool)
theorem lay288 : layT Tryz.prog 288 = some (false, 1) := by kernel_rfl
theorem con288 : concT Tryz.prog 288 = true := by kernel_rfl
-- 289: func(api.Term, int) (api.Term, bool, bool)
theorem lay289 : layT Tryz.prog 289 = some (false, 1) := by kernel_rfl
theorem zer289 : zeroT Tryz.prog 289 = some [.v (.prim .nilFunc)] := by kernel_rfl
theorem con289 : concT Tryz.prog 289 = true := by kernel_rfl
-- 290: func(api.Term, int, map[int]bool)
theorem lay290 : layT Tryz.prog 290 = some (false, 1) := by kernel_rfl
theorem zer290 : zeroT Tryz.prog 290 = some [.v (.prim .nilFunc)] := by kernel_rfl
theorem con290 : concT Tryz.prog 290 = true := by kernel_rfl
-- 291: func(api.Formula, int) int
theorem lay291 : layT Tryz.prog 291 = some (false, 1) := by kernel_rfl
theorem zer291 : zeroT Tryz.prog 291 = some [.v (.prim .nilFunc)] := by kernel_rfl
theorem con291 : concT Tryz.prog 291 = true := by kernel_rfl
-- 292: func(api.Formula, int, int, api.Term) api.Formula
theorem lay292 : layT Tryz.prog 292 = some (false, 1) := by kernel_rfl
theorem zer292 : zeroT Tryz.prog 292 = some [.v (.prim .nilFunc)] := by kernel_rfl
theorem con292 : concT Tryz.prog 292 = true := by kernel_rfl
-- 293: func(api.Term, ...api.Type) api.Term
theorem lay293 : layT Tryz.prog 293 = some (false, 1) := by kernel_rfl
theorem zer293 : zeroT Tryz.prog 293 = some [.v (.prim .nilFunc)] := by kernel_rfl
theorem con293 : concT Tryz.prog 293 = true := by kernel_rfl
-- 294: func(int, api.Type, api.Term, api.Term, api.Term) api.Term
theorem lay294 : layT Tryz.prog 294 = some (false, 1) := by kernel_rfl
theorem zer294 : zeroT Tryz.prog 294 = some [.v (.prim .nilFunc)] := by kernel_rfl
theorem con294 : concT Tryz.prog 294 = true := by kernel_rfl
-- 295: func(api.Term, int) int
theorem lay295 : layT Tryz.prog 295 = some (false, 1) := by kernel_rfl
theorem zer295 : zeroT Tryz.prog 295 = some [.v (.prim .nilFunc)] := by kernel_rfl
theorem con295 : concT Tryz.prog 295 = true := by kernel_rfl
-- 296: func(api.Term, int, int, api.Term) api.Term
theorem lay296 : layT Tryz.prog 296 = some (false, 1) := by kernel_rfl
theorem zer296 : zeroT Tryz.prog 296 = some [.v (.prim .nilFunc)] := by kernel_rfl
theorem con296 : concT Tryz.prog 296 = true := by kernel_rfl
-- 297: func() string
theorem lay297 : layT Tryz.prog 297 = some (false, 1) := by kernel_rfl
theorem zer297 : zeroT Tryz.prog 297 = some [.v (.prim .nilFunc)] := by kernel_rfl
theorem con297 : concT Tryz.prog 297 = true := by kernel_rfl
-- 298: struct { _interface *abi.Type; concrete *abi.Type; asserted *abi.Type; missingMethod string }
theorem lay298 : layT Tryz.prog 298 = some (true, 4) := by kernel_rfl
theorem zer298 : zeroT Tryz.prog 298 = some [.v (.prim (.pointer none)), .v (.prim (.pointer none)), .v (.prim (.pointer none)), .v (.prim (.string ByteArray.empty))] := by kernel_rfl
theorem pla298 : placesT Tryz.prog 298 = some [(0, 1), (1, 1), (2, 1), (3, 1)] := by kernel_rfl
theorem con298 : concT Tryz.prog 298 = true := by kernel_rfl
theorem fld298_0 : fieldT Tryz.prog 298 0 = some (false, 0, 1) := by kernel_rfl
theorem fld298_1 : fieldT Tryz.prog 298 1 = some (false, 1, 1) := by kernel_rfl
theorem fld298_2 : fieldT Tryz.prog 298 2 = some (false, 2, 1) := by kernel_rfl
theorem fld298_3 : fieldT Tryz.prog 298 3 = some (false, 3, 1) := by kernel_rfl
-- 299: runtime.TypeAssertionError
theorem lay299 : layT Tryz.prog 299 = some (true, 4) := by kernel_rfl
theorem zer299 : zeroT Tryz.prog 299 = some [.v (.prim (.pointer none)), .v (.prim (.pointer none)), .v (.prim (.pointer none)), .v (.prim (.string ByteArray.empty))] := by kernel_rfl
theorem pla299 : placesT Tryz.prog 299 = some [(0, 1), (1, 1), (2, 1), (3, 1)] := by kernel_rfl
theorem con299 : concT Tryz.prog 299 = true := by kernel_rfl
theorem fld299_0 : fieldT Tryz.prog 299 0 = some (false, 0, 1) := by kernel_rfl
theorem fld299_1 : fieldT Tryz.prog 299 1 = some (false, 1, 1) := by kernel_rfl
theorem fld299_2 : fieldT Tryz.prog 299 2 = some (false, 2, 1) := by kernel_rfl
theorem fld299_3 : fieldT Tryz.prog 299 3 = some (false, 3, 1) := by kernel_rfl
-- 300: [0]*runtime.PanicNilError
theorem lay300 : layT Tryz.prog 300 = some (true, 0) := by kernel_rfl
theorem zer300 : zeroT Tryz.prog 300 = some [] := by kernel_rfl
theorem eln300 : elemT Tryz.prog 300 = none := by kernel_rfl
theorem arr300 : arrT Tryz.prog 300 = some (0, 1) := by kernel_rfl
theorem pla300 : placesT Tryz.prog 300 = some [] := by kernel_rfl
theorem con300 : concT Tryz.prog 300 = true := by kernel_rfl
-- 301: struct { _ [0]*runtime.PanicNilError }
theorem lay301 : layT Tryz.prog 301 = some (true, 0) := by kernel_rfl
theorem zer301 : zeroT Tryz.prog 301 = some [] := by kernel_rfl
theorem pla301 : placesT Tryz.prog 301 = some [(0, 0)] := by kernel_rfl
theorem con301 : concT Tryz.prog 301 = true := by kernel_rfl
-- 302: runtime.PanicNilError
theorem lay302 : layT Tryz.prog 302 = some (true, 0) := by kernel_rfl
theorem zer302 : zeroT Tryz.prog 302 = some [] := by kernel_rfl
theorem pla302 : placesT Tryz.prog 302 = some [(0, 0)] := by kernel_rfl
theorem con302 : concT Tryz.prog 302 = true := by kernel_rfl
-- 303: uint32
theorem lay303 : layT Tryz.prog 303 = some (false, 1) := by kernel_rfl
theorem zer303 : zeroT Tryz.prog 303 = some [.v (.prim (.int .u32 (0)))] := by kernel_rfl
theorem zrp303 : zeroP Tryz.prog 303 = some (.int .u32 (0)) := by kernel_rfl
theorem con303 : concT Tryz.prog 303 = true := by kernel_rfl
theorem int303 : intT Tryz.prog 303 = some .u32 := by kernel_rfl
-- 304: abi.TFlag
theorem lay304 : layT Tryz.prog 304 = some (false, 1) := by kernel_rfl
theorem zer304 : zeroT Tryz.prog 304 = some [.v (.prim (.int .u8 (0)))] := by kernel_rfl
theorem zrp304 : zeroP Tryz.prog 304 = some (.int .u8 (0)) := by kernel_rfl
theorem con304 : concT Tryz.prog 304 = true := by kernel_rfl
theorem int304 : intT Tryz.prog 304 = some .u8 := by kernel_rfl
-- 305: abi.Kind
theorem lay305 : layT Tryz.prog 305 = some (false, 1) := by kernel_rfl
theorem zer305 : zeroT Tryz.prog 305 = some [.v (.prim (.int .u8 (0)))] := by kernel_rfl
theorem zrp305 : zeroP Tryz.prog 305 = some (.int .u8 (0)) := by kernel_rfl
theorem con305 : concT Tryz.prog 305 = true := by kernel_rfl
theorem int305 : intT Tryz.prog 305 = some .u8 := by kernel_rfl
-- 306: func(unsafe.Pointer, unsafe.Pointer) bool
theorem lay306 : layT Tryz.prog 306 = some (false, 1) := by kernel_rfl
theorem zer306 : zeroT Tryz.prog 306 = some [.v (.prim .nilFunc)] := by kernel_rfl
theorem con306 : concT Tryz.prog 306 = true := by kernel_rfl
-- 307: *uint8
theorem lay307 : layT Tryz.prog 307 = some (false, 1) := by kernel_rfl
theorem zer307 : zeroT Tryz.prog 307 = some [.v (.prim (.pointer none))] := by kernel_rfl
theorem ptr307 : ptrT Tryz.prog 307 = true := by kernel_rfl
theorem zrp307 : zeroP Tryz.prog 307 = some (.pointer none) := by kernel_rfl
theorem con307 : concT Tryz.prog 307 = true := by kernel_rfl
-- 308: abi.NameOff
theorem lay308 : layT Tryz.prog 308 = some (false, 1) := by kernel_rfl
theorem zer308 : zeroT Tryz.prog 308 = some [.v (.prim (.int .i32 (0)))] := by kernel_rfl
theorem zrp308 : zeroP Tryz.prog 308 = some (.int .i32 (0)) := by kernel_rfl
theorem con308 : concT Tryz.prog 308 = true := by kernel_rfl
theorem int308 : intT Tryz.prog 308 = some .i32 := by kernel_rfl
-- 309: abi.TypeOff
theorem lay309 : layT Tryz.prog 309 = some (false, 1) := by kernel_rfl
theorem zer309 : zeroT Tryz.prog 309 = some [.v (.prim (.int .i32 (0)))] := by kernel_rfl
theorem zrp309 : zeroP Tryz.prog 309 = some (.int .i32 (0)) := by kernel_rfl
theorem con309 : concT Tryz.prog 309 = true := by kernel_rfl
theorem int309 : intT Tryz.prog 309 = some .i32 := by kernel_rfl
-- 310: struct { Size_ uintptr; PtrBytes uintptr; Hash uint32; TFlag abi.TFlag; Align_ uint8; FieldAlign_ uint8; Kind_ abi.Kind; Equal func(unsafe.Pointer, unsafe.Pointer) bool; GCData *uint8; Str abi.NameOff; PtrToThis abi.TypeOff }
theorem lay310 : layT Tryz.prog 310 = some (true, 11) := by kernel_rfl
theorem zer310 : zeroT Tryz.prog 310 = some [.v (.prim (.int .u64 (0))), .v (.prim (.int .u64 (0))), .v (.prim (.int .u32 (0))), .v (.prim (.int .u8 (0))), .v (.prim (.int .u8 (0))), .v (.prim (.int .u8 (0))), .v (.prim (.int .u8 (0))), .v (.prim .nilFunc), .v (.prim (.pointer none)), .v (.prim (.int .i32 (0))), .v (.prim (.int .i32 (0)))] := by kernel_rfl
theorem pla310 : placesT Tryz.prog 310 = some [(0, 1), (1, 1), (2, 1), (3, 1), (4, 1), (5, 1), (6, 1), (7, 1), (8, 1), (9, 1), (10, 1)] := by kernel_rfl
theorem con310 : concT Tryz.prog 310 = true := by kernel_rfl
theorem fld310_0 : fieldT Tryz.prog 310 0 = some (false, 0, 1) := by kernel_rfl
theorem fld310_1 : fieldT Tryz.prog 310 1 = some (false, 1, 1) := by kernel_rfl
theorem fld310_2 : fieldT Tryz.prog 310 2 = some (false, 2, 1) := by kernel_rfl
theorem fld310_3 : fieldT Tryz.prog 310 3 = some (false, 3, 1) := by kernel_rfl
theorem fld310_4 : fieldT Tryz.prog 310 4 = some (false, 4, 1) := by kernel_rfl
theorem fld310_5 : fieldT Tryz.prog 310 5 = some (false, 5, 1) := by kernel_rfl
theorem fld310_6 : fieldT Tryz.prog 310 6 = some (false, 6, 1) := by kernel_rfl
theorem fld310_7 : fieldT Tryz.prog 310 7 = some (false, 7, 1) := by kernel_rfl
theorem fld310_8 : fieldT Tryz.prog 310 8 = some (false, 8, 1) := by kernel_rfl
theorem fld310_9 : fieldT Tryz.prog 310 9 = some (false, 9, 1) := by kernel_rfl
theorem fld310_10 : fieldT Tryz.prog 310 10 = some (false, 10, 1) := by kernel_rfl
-- 311: abi.Type
theorem lay311 : layT Tryz.prog 311 = some (true, 11) := by kernel_rfl
theorem zer311 : zeroT Tryz.prog 311 = some [.v (.prim (.int .u64 (0))), .v (.prim (.int .u64 (0))), .v (.prim (.int .u32 (0))), .v (.prim (.int .u8 (0))), .v (.prim (.int .u8 (0))), .v (.prim (.int .u8 (0))), .v (.prim (.int .u8 (0))), .v (.prim .nilFunc), .v (.prim (.pointer none)), .v (.prim (.int .i32 (0))), .v (.prim (.int .i32 (0)))] := by kernel_rfl
theorem pla311 : placesT Tryz.prog 311 = some [(0, 1), (1, 1), (2, 1), (3, 1), (4, 1), (5, 1), (6, 1), (7, 1), (8, 1), (9, 1), (10, 1)] := by kernel_rfl
theorem con311 : concT Tryz.prog 311 = true := by kernel_rfl
theorem fld311_0 : fieldT Tryz.prog 311 0 = some (false, 0, 1) := by kernel_rfl
theorem fld311_1 : fieldT Tryz.prog 311 1 = some (false, 1, 1) := by kernel_rfl
theorem fld311_2 : fieldT Tryz.prog 311 2 = some (false, 2, 1) := by kernel_rfl
theorem fld311_3 : fieldT Tryz.prog 311 3 = some (false, 3, 1) := by kernel_rfl
theorem fld311_4 : fieldT Tryz.prog 311 4 = some (false, 4, 1) := by kernel_rfl
theorem fld311_5 : fieldT Tryz.prog 311 5 = some (false, 5, 1) := by kernel_rfl
theorem fld311_6 : fieldT Tryz.prog 311 6 = some (false, 6, 1) := by kernel_rfl
theorem fld311_7 : fieldT Tryz.prog 311 7 = some (false, 7, 1) := by kernel_rfl
theorem fld311_8 : fieldT Tryz.prog 311 8 = some (false, 8, 1) := by kernel_rfl
theorem fld311_9 : fieldT Tryz.prog 311 9 = some (false, 9, 1) := by kernel_rfl
theorem fld311_10 : fieldT Tryz.prog 311 10 = some (false, 10, 1) := by kernel_rfl
-- 312: unsafe.Pointer
theorem lay312 : layT Tryz.prog 312 = some (false, 1) := by kernel_rfl
theorem zer312 : zeroT Tryz.prog 312 = some [.v (.prim (.pointer none))] := by kernel_rfl
theorem zrp312 : zeroP Tryz.prog 312 = some (.pointer none) := by kernel_rfl
theorem con312 : concT Tryz.prog 312 = true := by kernel_rfl

attribute [go_sem] lay0 con0 lay1 zer1 con1 lay2 zer2 zrp2 con2 int2 lay3 zer3 zrp3 con3 int3 lay4 zer4 boo4 con4 lay5 zer5 zrp5 con5 int5 lay6 zer6 zrp6 con6 int6 lay7 zer7 pla7 con7 fld7_0 fld7_1 fld7_2 fld7_3 lay8 zer8 pla8 con8 fld8_0 fld8_1 fld8_2 fld8_3 lay9 zer9 con9 lay10 zer10 con10 lay11 zer11 con11 lay12 zer12 zrp12 con12 int12 lay13 zer13 pla13 con13 fld13_0 fld13_1 lay14 zer14 pla14 con14 fld14_0 fld14_1 lay15 zer15 ptr15 zrp15 con15 lay16 zer16 ptr16 zrp16 con16 lay17 zer17 ptr17 zrp17 con17 lay18 zer18 pla18 con18 fld18_0 lay19 zer19 pla19 con19 fld19_0 lay20 zer20 lay21 zer21 zrp21 con21 int21 lay22 zer22 ele22 elz22 con22 lay23 zer23 con23 lay24 zer24 con24 lay25 zer25 ele25 elz25 con25 lay26 zer26 pla26 con26 fld26_0 fld26_1 lay27 zer27 pla27 con27 fld27_0 fld27_1 lay28 zer28 ele28 elz28 con28 lay29 zer29 pla29 con29 fld29_0 fld29_1 fld29_2 fld29_3 lay30 zer30 pla30 con30 fld30_0 fld30_1 fld30_2 fld30_3 lay31 zer31 ele31 elz31 con31 lay32 con32 lay33 zer33 con33 lay34 zer34 ptr34 zrp34 con34 lay35 zer35 con35 lay36 zer36 zrp36 con36 int36 lay37 con37 lay38 zer38 con38 lay39 zer39 con39 lay40 zer40 con40 lay41 zer41 con41 lay42 con42 lay43 zer43 con43 lay44 zer44 pla44 con44 fld44_0 fld44_1 fld44_2 fld44_3 lay45 zer45 pla45 con45 fld45_0 fld45_1 fld45_2 fld45_3 lay46 con46 lay47 zer47 con47 lay48 zer48 ele48 elz48 con48 lay49 zer49 pla49 con49 fld49_0 fld49_1 fld49_2 fld49_3 lay50 zer50 pla50 con50 fld50_0 fld50_1 fld50_2 fld50_3 lay51 zer51 ele51 elz51 con51 lay52 zer52 pla52 con52 fld52_0 fld52_1 fld52_2 fld52_3 fld52_4 fld52_5 lay53 zer53 pla53 con53 fld53_0 fld53_1 fld53_2 fld53_3 fld53_4 fld53_5 lay54 con54 lay55 zer55 con55 lay56 con56 lay57 zer57 con57 lay58 zer58 pla58 con58 fld58_0 fld58_1 lay59 zer59 pla59 con59 fld59_0 fld59_1 lay60 zer60 con60 lay61 zer61 con61 lay62 zer62 con62 lay63 zer63 con63 lay64 zer64 con64 lay65 zer65 pla65 con65 fld65_0 fld65_1 lay66 zer66 pla66 con66 fld66_0 fld66_1 lay67 con67 lay68 zer68 con68 lay69 zer69 con69 lay70 zer70 con70 lay71 zer71 con71 lay72 con72 lay73 zer73 con73 lay74 zer74 con74 lay75 zer75 con75 lay76 zer76 con76 lay77 zer77 ptr77 zrp77 con77 lay78 zer78 pla78 con78 fld78_0 fld78_1 fld78_2 lay79 zer79 pla79 con79 fld79_0 fld79_1 fld79_2 lay80 zer80 ele80 elz80 con80 lay81 zer81 pla81 con81 fld81_0 fld81_1 fld81_2 fld81_3 fld81_4 lay82 zer82 pla82 con82 fld82_0 fld82_1 fld82_2 fld82_3 fld82_4 lay83 zer83 con83 lay84 zer84 con84 lay85 zer85 con85 lay86 zer86 con86 lay87 con87 lay88 zer88 con88 lay89 zer89 con89 lay90 zer90 con90 lay91 zer91 con91 lay92 zer92 con92 lay93 zer93 pla93 con93 fld93_0 fld93_1 lay94 zer94 pla94 con94 fld94_0 fld94_1 lay95 con95 lay96 zer96 con96 lay97 zer97 con97 lay98 zer98 con98 lay99 zer99 con99 lay100 zer100 ptr100 zrp100 con100 lay101 zer101 pla101 con101 fld101_0 fld101_1 fld101_2 lay102 zer102 pla102 con102 fld102_0 fld102_1 fld102_2 lay103 zer103 pla103 con103 fld103_0 fld103_1 fld103_2 lay104 zer104 pla104 con104 fld104_0 fld104_1 fld104_2 lay105 con105 lay106 zer106 con106 lay107 zer107 con107 lay108 zer108 con108 lay109 zer109 con109 lay110 zer110 con110 lay111 zer111 con111 lay112 zer112 con112 lay113 zer113 con113 lay114 zer114 con114 lay115 zer115 con115 lay116 zer116 con116 lay117 zer117 con117 lay118 zer118 ele118 elz118 con118 lay119 zer119 lay120 zer120 con120 lay121 zer121 ptr121 zrp121 con121 lay122 zer122 pla122 con122 fld122_0 fld122_1 lay123 zer123 pla123 con123 fld123_0 fld123_1 lay124 con124 lay125 zer125 con125 lay126 zer126 con126 lay127 zer127 con127 lay128 zer128 con128 lay129 zer129 con129 lay130 zer130 con130 lay131 zer131 con131 lay132 zer132 pla132 con132 fld132_0 fld132_1 lay133 zer133 pla133 con133 fld133_0 fld133_1 lay134 con134 lay135 zer135 ele135 elz135 con135 lay136 zer136 ele136 elz136 con136 lay137 zer137 con137 lay138 zer138 con138 lay139 zer139 con139 lay140 zer140 con140 lay141 zer141 con141 lay142 zer142 con142 lay143 zer143 con143 lay144 zer144 con144 lay145 zer145 con145 lay146 zer146 con146 lay147 zer147 con147 lay148 zer148 con148 lay149 zer149 con149 lay150 zer150 con150 lay151 zer151 con151 lay152 zer152 con152 lay153 zer153 con153 lay154 zer154 con154 lay155 zer155 con155 lay156 zer156 con156 lay157 zer157 con157 lay158 zer158 con158 lay159 zer159 con159 lay160 zer160 con160 lay161 zer161 con161 lay162 zer162 con162 lay163 zer163 con163 lay164 zer164 pla164 con164 fld164_0 fld164_1 fld164_2 lay165 zer165 pla165 con165 fld165_0 fld165_1 fld165_2 lay166 zer166 con166 lay167 zer167 con167 lay168 zer168 con168 lay169 zer169 con169 lay170 zer170 con170 lay171 zer171 con171 lay172 zer172 con172 lay173 zer173 con173 lay174 zer174 ptr174 zrp174 con174 lay175 zer175 con175 lay176 zer176 ptr176 zrp176 con176 lay177 zer177 con177 lay178 zer178 con178 lay179 zer179 con179 lay180 zer180 pla180 con180 fld180_0 fld180_1 lay181 zer181 pla181 con181 fld181_0 fld181_1 lay182 zer182 ptr182 zrp182 con182 lay183 zer183 pla183 con183 fld183_0 fld183_1 lay184 zer184 pla184 con184 fld184_0 fld184_1 lay185 zer185 pla185 con185 lay186 zer186 pla186 con186 lay187 zer187 con187 lay188 zer188 con188 lay189 zer189 con189 lay190 zer190 ptr190 zrp190 con190 lay191 zer191 con191 lay192 zer192 ptr192 zrp192 con192 lay193 zer193 pla193 con193 fld193_0 fld193_1 lay194 zer194 pla194 con194 fld194_0 fld194_1 lay195 zer195 eln195 arr195 pla195 con195 lay196 con196 lay197 zer197 con197 lay198 zer198 con198 lay199 zer199 pla199 con199 fld199_0 fld199_1 lay200 zer200 pla200 con200 fld200_0 fld200_1 lay201 con201 lay202 zer202 con202 lay203 con203 lay204 zer204 con204 lay205 zer205 con205 lay206 zer206 con206 lay207 zer207 eln207 arr207 pla207 con207 lay208 zer208 con208 lay209 zer209 con209 lay210 zer210 con210 lay211 zer211 con211 lay212 zer212 con212 lay213 zer213 con213 lay214 zer214 con214 lay215 zer215 con215 lay216 zer216 con216 lay217 con217 lay218 zer218 con218 lay219 zer219 con219 lay220 zer220 con220 lay221 zer221 con221 lay222 zer222 con222 lay223 zer223 con223 lay224 zer224 con224 lay225 con225 lay226 zer226 con226 lay227 zer227 con227 lay228 zer228 con228 lay229 zer229 pla229 con229 fld229_0 lay230 zer230 pla230 con230 fld230_0 lay231 zer231 con231 lay232 zer232 con232 lay233 zer233 con233 lay234 zer234 ele234 elz234 con234 lay235 zer235 con235 lay236 zer236 con236 lay237 zer237 con237 lay238 zer238 con238 lay239 zer239 con239 lay240 zer240 con240 lay241 zer241 con241 lay242 zer242 con242 lay243 zer243 con243 lay244 zer244 con244 lay245 zer245 con245 lay246 zer246 con246 lay247 zer247 pla247 con247 fld247_0 fld247_1 fld247_2 fld247_3 fld247_4 lay248 zer248 pla248 con248 fld248_0 fld248_1 fld248_2 fld248_3 fld248_4 lay249 con249 lay250 zer250 con250 lay251 zer251 con251 lay252 zer252 con252 lay253 zer253 con253 lay254 zer254 con254 lay255 zer255 con255 lay256 zer256 con256 lay257 zer257 con257 lay258 zer258 con258 lay259 con259 lay260 zer260 con260 lay261 zer261 con261 lay262 zer262 con262 lay263 zer263 con263 lay264 zer264 con264 lay265 zer265 con265 lay266 zer266 con266 lay267 zer267 con267 lay268 zer268 con268 lay269 zer269 con269 lay270 zer270 con270 lay271 zer271 con271 lay272 zer272 con272 lay273 zer273 con273 lay274 zer274 con274 lay275 zer275 con275 lay276 zer276 con276 lay277 zer277 con277 lay278 zer278 con278 lay279 zer279 con279 lay280 zer280 con280 lay281 zer281 eln281 arr281 pla281 con281 lay282 zer282 con282 lay283 con283 lay284 zer284 con284 lay285 zer285 con285 lay286 zer286 con286 lay287 zer287 con287 lay288 con288 lay289 zer289 con289 lay290 zer290 con290 lay291 zer291 con291 lay292 zer292 con292 lay293 zer293 con293 lay294 zer294 con294 lay295 zer295 con295 lay296 zer296 con296 lay297 zer297 con297 lay298 zer298 pla298 con298 fld298_0 fld298_1 fld298_2 fld298_3 lay299 zer299 pla299 con299 fld299_0 fld299_1 fld299_2 fld299_3 lay300 zer300 eln300 arr300 pla300 con300 lay301 zer301 pla301 con301 lay302 zer302 pla302 con302 lay303 zer303 zrp303 con303 int303 lay304 zer304 zrp304 con304 int304 lay305 zer305 zrp305 con305 int305 lay306 zer306 con306 lay307 zer307 ptr307 zrp307 con307 lay308 zer308 zrp308 con308 int308 lay309 zer309 zrp309 con309 int309 lay310 zer310 pla310 con310 fld310_0 fld310_1 fld310_2 fld310_3 fld310_4 fld310_5 fld310_6 fld310_7 fld310_8 fld310_9 fld310_10 lay311 zer311 pla311 con311 fld311_0 fld311_1 fld311_2 fld311_3 fld311_4 fld311_5 fld311_6 fld311_7 fld311_8 fld311_9 fld311_10 lay312 zer312 zrp312 con312
end Go.Proofs.YtcldnfbcbkaanaaGreatDoor.Lift

namespace Go.Proofs.YtcldnfbcbkaanaaGreatDoor.Lift
set_option linter.unusedSimpArgs false
set_option linter.unusedVariables false
set_option linter.unnecessarySimpa false
open Go
variable {gl : Globs}

theorem ref01_copy_ok (t : Ty) : Con1 Tryz.prog gl 137 [t.dv] [] t.dv [] := by
  induction t using Ty.ind with
  | h t ih =>
  refine t_in Tryz.func137 ?_
  intro X hP hgl hf hfn hn hR hids hfit
  have htf : t.fit := (Ty.dv_fit t).1 (hfit _ (by simp))
  have hlen : t.args.length ≤ 2147483648 := ((Ty.fit_eq t).1 htf).2.1
  refine t_rg0 ?_
  refine t_rg0 ?_
  refine t_rg0 ?_
  refine t_a ?_
  refine W_sub [(1003, 0)] ?_ ?_ ?_ (W_list t.args (fun done rest => [(.slot 2, .one (.loc 2 0)), (.loc 2, .row [.v (dint 0), .own 0 []]), (.slot 1, .one (.loc 1 0)), (.loc 1, .row [.v (dint t.kind), .v (.sl (t.args.map Ty.cells))]),
      (.slot 3, .one (.own 1003 (done.map Ty.cells))), (.tok 1003, .tk 2 done.length), (.slot 7, .one (.v (.sl (t.args.map Ty.cells)))), (.slot 8, .one (.v (dint t.args.length))), (.slot 9, .one (.v (dint done.length)))]) ?_ ?_)
  · simp [go_sem]
  · simp [go_sem]
  · simp [go_sem]
  · intro done x rest hL hg hnext
    have hlt : done.length < t.args.length := by rw [hL]; simp
    refine t_rg0 ?_
    refine t_yes ?_
    refine t_rg @hg ?_
    refine t_a ?_
    first | refine W_reg [] fun K hK => ?_ | refine W_regd (by rw [hP]; exact mixed) [] fun K hK => ?_
    refine t_s0 ?_
    refine t_c trivial (ih x (List.mem_of_getElem? hg)) ?_
    refine t_e ?_
    clear hK K
    refine t_rg0 ?_
    refine t_b ?_
    refine t_sub [(1003, 17)] trivial hnext
  · refine t_rg0 ?_
    refine t_no ?_
    refine t_rg0 ?_
    refine t_r ?_
    simp [go_sem, hP, hgl, hn] <;> (try omega)

theorem ref01_same_ok (a b : Ty) : Con1 Tryz.prog gl 32 [a.dv, b.dv] [] (dbool (a.same b)) [] := by
  induction a using Ty.ind generalizing b with
  | h a ih =>
  refine t_in Tryz.func32 ?_
  intro X hP hgl hf hfn hn hR hids hfit
  have hfa : a.fit := (Ty.dv_fit a).1 (hfit _ (by simp))
  have hfb : b.fit := (Ty.dv_fit b).1 (hfit _ (by simp))
  have hla : a.args.length ≤ 2147483648 := ((Ty.fit_eq a).1 hfa).2.1
  have hlb : b.args.length ≤ 2147483648 := ((Ty.fit_eq b).1 hfb).2.1
  refine t_rg0 ?_
  by_cases hk : a.kind = b.kind
  · refine t_rg @hk ?_
    by_cases hl : a.args.length = b.args.length
    · refine t_a ?_
      refine W_cond rfl ?_ ?_
      · intro h; simp [hl] at h
      intro _
      refine t_rg0 ?_
      refine t_a ?_
      refine W_sub [] ?_ ?_ ?_ (W_upto a.args.length (fun i => ∀ (j : Nat) (x y : Ty), j < i → a.args[j]? = some x → b.args[j]? = some y → x.same y = true)
        (fun i => [(.slot 2, .one (.loc 2 0)), (.loc 2, .row [.v (dint a.kind), .v (.sl (a.args.map Ty.cells))]), (.slot 3, .one (.loc 3 0)), (.loc 3, .row [.v (dint b.kind), .v (.sl (b.args.map Ty.cells))]), (.slot 22, .one (.v (dint a.args.length))), (.slot 23, .one (.v (dint i)))]) (by intro j x y h; omega) ?_ ?_)
      · simp [go_sem]
      · simp [go_sem, hk, hl]
      · simp [go_sem]
      · intro i hi hI hnext
        obtain ⟨x, hx⟩ : ∃ x, a.args[i]? = some x := ⟨_, List.getElem?_eq_getElem hi⟩
        obtain ⟨y, hy⟩ : ∃ y, b.args[i]? = some y := ⟨_, List.getElem?_eq_getElem (by omega)⟩
        refine t_rg0 ?_
        refine t_yes ?_
        refine t_rg0 ?_
        refine t_a ?_
        first | refine W_reg [] fun K hK => ?_ | refine W_regd (by rw [hP]; exact mixed) [] fun K hK => ?_
        refine t_s (j2 @hx @hy) ?_
        refine t_c trivial (ih x (List.mem_of_getElem? hx) y) ?_
        refine t_e ?_
        clear hK K
        by_cases hs : x.same y = true
        · refine t_a ?_
          refine W_cond rfl ?_ ?_
          · intro h; simp [hs] at h
          intro _
          refine t_rg0 ?_
          refine t_b ?_
          refine t_sub [] trivial (hnext ?_)
          intro j x' y' hj hx' hy'
          by_cases hji : j = i
          · subst hji; rw [hx] at hx'; rw [hy] at hy'; cases hx'; cases hy'; exact hs
          · exact hI j x' y' (by omega) hx' hy'
        · refine t_a ?_
          refine W_cond rfl ?_ ?_
          rotate_left
          · intro h; simp [hs] at h
          intro _
          refine t_rg0 ?_
          refine t_r ?_
          simp [go_sem, hP, hgl, hn] <;> (try omega)
          refine Bool.eq_false_iff.2 ?_
          intro h
          rw [Ty.same_eq, Bool.and_eq_true, Ty.sames_iff] at h
          exact hs (h.2.2 i x y hx hy)
      · intro hI
        refine t_rg0 ?_
        refine t_no ?_
        refine t_rg0 ?_
        refine t_r ?_
        simp [go_sem, hP, hgl, hn] <;> (try omega)
        rw [Ty.same_eq, Bool.and_eq_true, Ty.sames_iff]
        exact ⟨by simp [hk], hl, fun i x y hx hy => hI i x y (List.getElem?_eq_some_iff.1 hx).1 hx hy⟩
    · refine t_a ?_
      refine W_cond rfl ?_ ?_
      rotate_left
      · intro h; simp at h; omega
      intro _
      refine t_rg0 ?_
      refine t_r ?_
      simp [go_sem, hP, hgl, hn] <;> (try omega)
      refine Bool.eq_false_iff.2 ?_
      intro h
      rw [Ty.same_eq, Bool.and_eq_true, Ty.sames_iff] at h
      exact hl h.2.1
  · refine t_rg @hk ?_
    refine t_a ?_
    refine W_cond rfl ?_ ?_
    rotate_left
    · intro h; simp at h
    intro _
    refine t_rg0 ?_
    refine t_r ?_
    simp [go_sem, hP, hgl, hn] <;> (try omega)
    simp [Ty.same_eq, hk]

theorem ref01_nat_ok : Con1 Tryz.prog gl 60 [] [] (Ty.mk 1 []).dv [] := by
  refine t_in Tryz.func60 ?_
  intro X hP hgl hf hfn hn hR hids hfit
  refine t_rg0 ?_
  refine t_rg0 ?_
  refine t_r ?_
  simp [go_sem, hP, hgl, hn] <;> (try omega)
  all_goals exact t_f

theorem ref01_list_ok : Con1 Tryz.prog gl 61 [] [] (Ty.mk 2 []).dv [] := by
  refine t_in Tryz.func61 ?_
  intro X hP hgl hf hfn hn hR hids hfit
  refine t_rg0 ?_
  refine t_rg0 ?_
  refine t_r ?_
  simp [go_sem, hP, hgl, hn] <;> (try omega)
  all_goals exact t_f

theorem ref01_unit_ok : Con1 Tryz.prog gl 62 [] [] (Ty.mk 5 []).dv [] := by
  refine t_in Tryz.func62 ?_
  intro X hP hgl hf hfn hn hR hids hfit
  refine t_rg0 ?_
  refine t_rg0 ?_
  refine t_r ?_
  simp [go_sem, hP, hgl, hn] <;> (try omega)
  all_goals exact t_f

theorem ref01_two_ok (a b : Ty) : Con1 Tryz.prog gl 63 [a.dv, b.dv] [] (Ty.mk 3 [a, b]).dv [] := by
  refine t_in Tryz.func63 ?_
  intro X hP hgl hf hfn hn hR hids hfit
  refine t_rg0 ?_
  refine t_a ?_
  first | refine W_reg [] fun K hK => ?_ | refine W_regd (by rw [hP]; exact mixed) [] fun K hK => ?_
  refine t_s0 ?_
  refine t_c trivial (ref01_copy_ok a) ?_
  refine t_c trivial (ref01_copy_ok b) ?_
  refine t_e ?_
  clear hK K
  refine t_r ?_
  simp [go_sem, hP, hgl, hn] <;> (try omega)
  all_goals exact t_f
end Go.Proofs.YtcldnfbcbkaanaaGreatDoor.Lift

namespace Go.Proofs.YtcldnfbcbkaanaaGreatDoor.Lift
set_option linter.unusedSimpArgs false
set_option linter.unusedVariables false
set_option linter.unnecessarySimpa false
open Go
variable {gl : Globs}

theorem Tm.fit_len {t : Tm} (h : t.dv.fit) : t.args.length ≤ 2147483648 := ((Tm.fit_eq t).1 ((Tm.dv_fit t).1 h)).2.2.2.1
theorem sl_len {l : List (List DV)} (h : DV.fit (.sl l)) : l.length ≤ 2147483648 := by simp [DV.fit, BIG] at h; exact h.1

theorem ref02_copy_ok (t : Tm) : Con1 Tryz.prog gl 132 [t.dv] [] t.dv [] := by
  induction t using Tm.ind with
  | h t ih =>
  refine t_in Tryz.func132 ?_
  intro X hP hgl hf hfn hn hR hids hfit
  have hlen := Tm.fit_len (hfit t.dv (by simp))
  refine t_rg0 ?_
  refine t_rg0 ?_
  refine t_rg0 ?_
  refine t_a ?_
  refine t_sub [(1003, 0)] trivial (W_list (t.args) (fun done rest => [(.slot 9, .one (.v (dint done.length))), (.slot 8, .one (.v (dint t.args.length))), (.slot 7, .one (.v (.sl (t.args.map Tm.cells)))), (.slot 3, .one (.own 1003 (done.map Tm.cells))), (.tok 1003, .tk 5 done.length), (.loc 2, .row ([.v (dint 0), .v (dint 0), .v (dint 0), .own 0 [], .own 0 []])), (.slot 2, .one (.loc 2 0)), (.loc 1, .row ([.v (dint t.kind), .v (dint t.index), .v (dint t.type.kind), .v (.sl (t.type.args.map Ty.cells)), .v (.sl (t.args.map Tm.cells))])), (.slot 1, .one (.loc 1 0))]) ?_ ?_)
  · intro done x rest hL hg hnext
    have hlt : done.length < t.args.length := by rw [hL]; simp
    refine t_rg0 ?_
    refine t_yes ?_
    refine t_rg @hg ?_
    refine t_a ?_
    first | refine W_reg [] fun K hK => ?_ | refine W_regd (by rw [hP]; exact mixed) [] fun K hK => ?_
    refine t_s0 ?_
    refine t_c trivial (ih x (List.mem_of_getElem? hg)) ?_
    refine t_e ?_
    clear hK K
    refine t_rg0 ?_
    refine t_b ?_
    refine t_sub [(1003, 17)] trivial hnext
  · refine t_rg0 ?_
    refine t_no ?_
    refine t_a ?_
    first | refine W_reg [] fun K hK => ?_ | refine W_regd (by rw [hP]; exact mixed) [] fun K hK => ?_
    refine t_s0 ?_
    refine t_c trivial (ref01_copy_ok t.type) ?_
    refine t_e ?_
    clear hK K
    refine t_r ?_
    simp [go_sem, hP, hgl, hn] <;> (try omega)

/-- the number of nodes -/
def Tm.count : Tm → Nat
  | .mk _ _ _ l => 1 + counts l
where
  counts : List Tm → Nat
    | [] => 0
    | a :: r => a.count + counts r
theorem Tm.count_eq (t : Tm) : t.count = 1 + Tm.count.counts t.args := by cases t; rfl
theorem Tm.counts_append (l m : List Tm) : Tm.count.counts (l ++ m) = Tm.count.counts l + Tm.count.counts m := by
  induction l with
  | nil => simp [Tm.count.counts]
  | cons a r ih => simp [Tm.count.counts, ih]; omega

theorem ref02_n_ok (k : Int) (l : List Tm) : Con1 Tryz.prog gl 57 [dint k, .sl (l.map Tm.cells)] [] (Tm.mk k 0 (Ty.mk 0 []) l).dv [] := by
  refine t_in Tryz.func57 ?_
  intro X hP hgl hf hfn hn hR hids hfit
  have hlen : l.length ≤ 2147483648 := by simpa using sl_len (hfit (.sl (l.map Tm.cells)) (by simp))
  refine t_rg0 ?_
  refine t_rg0 ?_
  refine t_rg0 ?_
  refine t_a ?_
  refine t_sub [(1005, 0)] trivial (W_list (l) (fun done rest => [(.slot 10, .one (.v (dint done.length))), (.slot 9, .one (.v (dint l.length))), (.slot 8, .one (.v (.sl (l.map Tm.cells)))), (.slot 5, .one (.own 1005 (done.map Tm.cells))), (.tok 1005, .tk 5 done.length), (.loc 4, .row ([.v (dint 0), .v (dint 0), .v (dint 0), .own 0 [], .own 0 []])), (.slot 4, .one (.loc 4 0)), (.slot 0, .one (.v (dint k)))]) ?_ ?_)
  · intro done x rest hL hg hnext
    have hlt : done.length < l.length := by rw [hL]; simp
    refine t_rg0 ?_
    refine t_yes ?_
    refine t_rg @hg ?_
    refine t_a ?_
    first | refine W_reg [] fun K hK => ?_ | refine W_regd (by rw [hP]; exact mixed) [] fun K hK => ?_
    refine t_s0 ?_
    refine t_c trivial (ref02_copy_ok x) ?_
    refine t_e ?_
    clear hK K
    refine t_rg0 ?_
    refine t_b ?_
    refine t_sub [(1005, 18)] trivial hnext
  · refine t_rg0 ?_
    refine t_no ?_
    refine t_rg0 ?_
    refine t_r ?_
    simp [go_sem, hP, hgl, hn] <;> (try omega)
    all_goals exact t_f

end Go.Proofs.YtcldnfbcbkaanaaGreatDoor.Lift

/-
  Plain facts: forms and sizes of types and terms.
-/
namespace Go.Proofs.YtcldnfbcbkaanaaGreatDoor.Lift
set_option linter.unusedSimpArgs false
set_option linter.unusedVariables false
set_option linter.unnecessarySimpa false
open Go

def tyKind (k : Int) (n : Nat) : Bool := (decide (k = 1 ∨ k = 2 ∨ k = 5) && n == 0) || (decide (k = 3 ∨ k = 4) && n == 2)

namespace Ty
set_option linter.unusedSimpArgs false
set_option linter.unusedVariables false
set_option linter.unnecessarySimpa false
def shape : Ty → Bool
  | .mk k a => tyKind k a.length && shapes a
where
  shapes : List Ty → Bool
    | [] => true
    | a :: r => a.shape && shapes r
theorem shape_eq (t : Ty) : t.shape = (tyKind t.kind t.args.length && shape.shapes t.args) := by cases t; rfl
theorem shapes_append (l m : List Ty) : shape.shapes (l ++ m) = (shape.shapes l && shape.shapes m) := by
  induction l with
  | nil => simp [shape.shapes]
  | cons a r ih => simp [shape.shapes, ih, Bool.and_assoc]
theorem shapes_iff (l : List Ty) : shape.shapes l = true ↔ ∀ a ∈ l, a.shape = true := by
  induction l with
  | nil => simp [shape.shapes]
  | cons a r ih => simp [shape.shapes, ih]
def count : Ty → Nat
  | .mk _ a => 1 + counts a
where
  counts : List Ty → Nat
    | [] => 0
    | a :: r => a.count + counts r
theorem count_eq (t : Ty) : t.count = 1 + count.counts t.args := by cases t; rfl
theorem counts_append (l m : List Ty) : count.counts (l ++ m) = count.counts l + count.counts m := by
  induction l with
  | nil => simp [count.counts]
  | cons a r ih => simp [count.counts, ih]; omega
theorem count_mem {l : List Ty} {a : Ty} (h : a ∈ l) : a.count ≤ count.counts l := by
  induction l with
  | nil => cases h
  | cons b r ih =>
    simp only [count.counts]
    rcases List.mem_cons.1 h with rfl | h
    · omega
    · have := ih h; omega
/-- the first error of a type -/
def checkN (t : Ty) : Int := if t.shape = true then if 64 < t.count then 4 else 0 else 2
def zero (t : Ty) : Bool := decide (t.kind = 0) && decide (t.args.length = 0)
end Ty

/-- how many parts a kind of terms has -/
def arityI (k : Int) : Int :=
  if k = 1 ∨ k = 4 ∨ k = 7 ∨ k = 13 then 0 else if k = 2 ∨ k = 5 ∨ k = 11 ∨ k = 12 then 1 else if k = 3 ∨ k = 8 ∨ k = 10 then 2 else if k = 6 ∨ k = 9 then 3 else -1

def tyOfKind (k : Int) (t : Ty) : Bool := if k = 2 ∨ k = 6 ∨ k = 9 then decide (t.checkN = 0) else t.zero

def tmKind (k i : Int) (t : Ty) (n : Nat) : Bool := decide ((n : Int) = arityI k) && decide (0 ≤ i) && (decide (k = 1) || decide (i = 0)) && tyOfKind k t

namespace Tm
set_option linter.unusedSimpArgs false
set_option linter.unusedVariables false
set_option linter.unnecessarySimpa false
def shape : Tm → Bool
  | .mk k i t a => tmKind k i t a.length && shapes a
where
  shapes : List Tm → Bool
    | [] => true
    | a :: r => a.shape && shapes r
theorem shape_eq (t : Tm) : t.shape = (tmKind t.kind t.index t.type t.args.length && shape.shapes t.args) := by cases t; rfl
theorem shapes_append (l m : List Tm) : shape.shapes (l ++ m) = (shape.shapes l && shape.shapes m) := by
  induction l with
  | nil => simp [shape.shapes]
  | cons a r ih => simp [shape.shapes, ih, Bool.and_assoc]
theorem shapes_iff (l : List Tm) : shape.shapes l = true ↔ ∀ a ∈ l, a.shape = true := by
  induction l with
  | nil => simp [shape.shapes]
  | cons a r ih => simp [shape.shapes, ih]
theorem count_mem {l : List Tm} {a : Tm} (h : a ∈ l) : a.count ≤ count.counts l := by
  induction l with
  | nil => cases h
  | cons b r ih =>
    simp only [count.counts]
    rcases List.mem_cons.1 h with rfl | h
    · omega
    · have := ih h; omega
theorem count_pos (t : Tm) : 1 ≤ t.count := by rw [count_eq]; omega
/-- all types of a term are small enough to be counted -/
def tys : Tm → Prop
  | .mk _ _ t a => t.count ≤ 1073741824 ∧ tyss a
where
  tyss : List Tm → Prop
    | [] => True
    | a :: r => a.tys ∧ tyss r
theorem tyss_iff (l : List Tm) : tys.tyss l ↔ ∀ a ∈ l, a.tys := by
  induction l with
  | nil => simp [tys.tyss]
  | cons a r ih => simp [tys.tyss, ih]
theorem tys_eq (t : Tm) : t.tys ↔ t.type.count ≤ 1073741824 ∧ ∀ a ∈ t.args, a.tys := by cases t; simp only [tys, tyss_iff, type, args]
/-- the first error of a term -/
def checkN (t : Tm) : Int := if t.shape = true then if 4096 < t.count then 4 else 0 else 2
end Tm
theorem Ty.fit_len {t : Ty} (h : t.dv.fit) : t.args.length ≤ 2147483648 := ((Ty.fit_eq t).1 ((Ty.dv_fit t).1 h)).2.1
end Go.Proofs.YtcldnfbcbkaanaaGreatDoor.Lift

namespace Go.Proofs.YtcldnfbcbkaanaaGreatDoor.Lift
set_option linter.unusedSimpArgs false
set_option linter.unusedVariables false
set_option linter.unnecessarySimpa false
open Go
variable {gl : Globs}

abbrev ptr (b : Nat) : DV := .prim (.pointer (some ⟨b, 0, none⟩))
/-- a deck of numbers, as an object's cells -/
abbrev deck (l : List Int) (p : Nat) : List DV := [.sl (ints l), dint p]

def modz (n k : Int) : Int := (n.tmod k + k).tmod k
theorem modz_bd (n k : Int) (h : 1 ≤ k) : 0 ≤ modz n k ∧ modz n k < k ∧ -k < n.tmod k ∧ n.tmod k < k := by
  have h1 : -k < n.tmod k := by
    have := Int.lt_tmod_of_pos n (show 0 < k by omega); omega
  have h2 : n.tmod k < k := Int.tmod_lt_of_pos n (by omega)
  refine ⟨?_, Int.tmod_lt_of_pos _ (by omega), h1, h2⟩
  exact Int.tmod_nonneg _ (by omega)

theorem mod_ok (n k : Int) (h1 : 1 ≤ k) (h2 : k ≤ 2147483648) : Con1 Tryz.prog gl 28 [dint n, dint k] [] (dint (modz n k)) [] := by
  refine t_in Tryz.func28 ?_
  intro X hP hgl hf hfn hn hR hids hfit
  have hb := modz_bd n k h1
  unfold modz at hb
  refine t_rg0 ?_
  refine t_a ?_
  first | refine W_reg [] fun K hK => ?_ | refine W_regd (by rw [hP]; exact mixed) [] fun K hK => ?_
  refine t_s0 ?_
  have hk0 : ¬ k = 0 := by omega
  refine ⟨⟨hk0, by omega⟩, ?_⟩
  refine ⟨by omega, ⟨hk0, by omega⟩, ?_⟩
  refine t_e ?_
  clear hK K
  refine t_r ?_
  simp [go_sem, hP, hgl, hn, modz] <;> (try omega)

theorem few_ok (l : List Int) : Con1 Tryz.prog gl 7 [.sl (ints l)] [] (dbool (decide (l.length ≤ 500))) [] := by
  refine t_in Tryz.func7 ?_
  intro X hP hgl hf hfn hn hR hids hfit
  refine t_rg0 ?_
  refine t_rg0 ?_
  refine t_r ?_
  simp [go_sem, hP, hgl, hn] <;> (try omega)

theorem new_ok (l : List Int) : Con Tryz.prog gl 9 [.sl (ints l)] [] fun r φ => ∃ b, r = ptr b ∧ φ = [(b, deck l 0)] := by
  refine t_in Tryz.func9 ?_
  intro X hP hgl hf hfn hn hR hids hfit
  refine t_rg0 ?_
  refine t_rg0 ?_
  refine W_expose 5 (by simp [go_sem]; rfl) ?_
  intro b hb
  simp [go_sem]
  refine W_retR hP hf hfn (ptr b) [(b, deck l 0)] (by simp [go_sem, hP, hgl, hn]) (by simp [go_sem]) (by simp) (by rw [hR.1]; exact ⟨b, rfl, rfl⟩) hR.2

/-- the next number below n -/
def nextD (l : List Int) (p : Nat) (n : Int) : Int × Nat :=
  if n < 1 then (0, p) else match l[p]? with
    | some x => (modz x n, p + 1)
    | none => (0, p)

theorem next_ok (b : Nat) (l : List Int) (p : Nat) (n : Int) (hn2 : n ≤ 2147483648) (hp : p ≤ 2147483648) :
    Con1 Tryz.prog gl 13 [ptr b, dint n] [(b, deck l p)] (dint (nextD l p n).1) [(b, deck l (nextD l p n).2)] := by
  refine t_in Tryz.func13 ?_
  intro X hP hgl hf hfn hn hR hids hfit
  refine t_rg0 ?_
  by_cases hlt : n < 1
  · refine t_rg @hlt ?_
    refine t_a ?_
    refine W_cond rfl ?_ ?_
    rotate_left
    · intro h; simp at h
    intro _
    refine t_rg0 ?_
    repeat (first | refine W_seq ?_ | refine W_skip ?_ | refine W_block ?_ | refine W_inBlock ?_ | refine W_label ?_ | refine W_exit rfl ?_)
    first | refine W_retR hP hf hfn _ ([(b, deck l p)]) (by first | (simp [go_sem, hP, hgl, hn, nextD, hlt]; done) | (simp [go_sem, hP, hgl, hn, nextD, hlt]; rfl)) (by simp [go_sem, hP, hgl, hn, nextD, hlt]) (by simp) ?_ hR.2 | refine W_endR hP hf hfn _ ([(b, deck l p)]) (by first | (simp [go_sem, hP, hgl, hn, nextD, hlt]; done) | (simp [go_sem, hP, hgl, hn, nextD, hlt]; rfl)) (by simp [go_sem, hP, hgl, hn, nextD, hlt]) (by simp) ?_ hR.2
    rw [hR.1]
    refine ⟨?_, by simp [nextD, hlt]⟩
    try simp [nextD, hlt]
    try all_goals (simp [Ty.dv, Ty.cells_eq, Ty.kind_mk, Ty.args_mk, Tm.dv, Tm.cells_eq, Tm.kind_mk, Tm.index_mk, Tm.type_mk, Tm.args_mk, Val.dv, Val.cells_eq, Val.kind_mk, Val.num_mk, Val.list_mk, Val.args_mk, ints])
  · by_cases hle : l.length ≤ p
    · refine t_rg (j2 @hlt @hle) ?_
      refine t_a ?_
      refine W_cond rfl ?_ ?_
      rotate_left
      · intro h; simp [hle] at h
      intro _
      refine t_rg0 ?_
      have hg : l[p]? = none := List.getElem?_eq_none hle
      repeat (first | refine W_seq ?_ | refine W_skip ?_ | refine W_block ?_ | refine W_inBlock ?_ | refine W_label ?_ | refine W_exit rfl ?_)
      first | refine W_retR hP hf hfn _ ([(b, deck l p)]) (by first | (simp [go_sem, hP, hgl, hn, nextD, hlt, hg]; done) | (simp [go_sem, hP, hgl, hn, nextD, hlt, hg]; rfl)) (by simp [go_sem, hP, hgl, hn, nextD, hlt, hg]) (by simp) ?_ hR.2 | refine W_endR hP hf hfn _ ([(b, deck l p)]) (by first | (simp [go_sem, hP, hgl, hn, nextD, hlt, hg]; done) | (simp [go_sem, hP, hgl, hn, nextD, hlt, hg]; rfl)) (by simp [go_sem, hP, hgl, hn, nextD, hlt, hg]) (by simp) ?_ hR.2
      rw [hR.1]
      refine ⟨?_, by simp [nextD, hlt, hg]⟩
      try simp [nextD, hlt, hg]
      try all_goals (simp [Ty.dv, Ty.cells_eq, Ty.kind_mk, Ty.args_mk, Tm.dv, Tm.cells_eq, Tm.kind_mk, Tm.index_mk, Tm.type_mk, Tm.args_mk, Val.dv, Val.cells_eq, Val.kind_mk, Val.num_mk, Val.list_mk, Val.args_mk, ints])
    · refine t_rg (j2 @hlt @hle) ?_
      refine t_a ?_
      refine W_cond rfl ?_ ?_
      · intro h; simp [hle] at h
      intro _
      obtain ⟨x, hx⟩ : ∃ x, l[p]? = some x := ⟨_, List.getElem?_eq_getElem (by omega)⟩
      have hg := ints_get hx
      refine t_rg @hg ?_
      refine t_rg0 ?_
      refine t_a ?_
      first | refine W_reg [] fun K hK => ?_ | refine W_regd (by rw [hP]; exact mixed) [] fun K hK => ?_
      refine t_s0 ?_
      refine t_c trivial (mod_ok x n (by omega) hn2) ?_
      refine t_e ?_
      clear hK K
      repeat (first | refine W_seq ?_ | refine W_skip ?_ | refine W_block ?_ | refine W_inBlock ?_ | refine W_label ?_ | refine W_exit rfl ?_)
      first | refine W_retR hP hf hfn _ ([(b, deck l (p + 1))]) (by first | (simp [go_sem, hP, hgl, hn, nextD, hlt, hx]; done) | (simp [go_sem, hP, hgl, hn, nextD, hlt, hx]; rfl)) (by simp [go_sem, hP, hgl, hn, nextD, hlt, hx]) (by simp) ?_ hR.2 | refine W_endR hP hf hfn _ ([(b, deck l (p + 1))]) (by first | (simp [go_sem, hP, hgl, hn, nextD, hlt, hx]; done) | (simp [go_sem, hP, hgl, hn, nextD, hlt, hx]; rfl)) (by simp [go_sem, hP, hgl, hn, nextD, hlt, hx]) (by simp) ?_ hR.2
      rw [hR.1]
      refine ⟨?_, by simp [nextD, hlt, hx]⟩
      try simp [nextD, hlt, hx]
      try all_goals (simp [Ty.dv, Ty.cells_eq, Ty.kind_mk, Ty.args_mk, Tm.dv, Tm.cells_eq, Tm.kind_mk, Tm.index_mk, Tm.type_mk, Tm.args_mk, Val.dv, Val.cells_eq, Val.kind_mk, Val.num_mk, Val.list_mk, Val.args_mk, ints])
end Go.Proofs.YtcldnfbcbkaanaaGreatDoor.Lift

namespace Go.Proofs.YtcldnfbcbkaanaaGreatDoor.Lift
set_option linter.unusedSimpArgs false
set_option linter.unusedVariables false
set_option linter.unnecessarySimpa false
open Go
variable {gl : Globs}

def wantI (k : Int) : Int := if k = 3 ∨ k = 4 then 2 else 0

end Go.Proofs.YtcldnfbcbkaanaaGreatDoor.Lift

namespace Go.Proofs.YtcldnfbcbkaanaaGreatDoor.Lift
set_option linter.unusedSimpArgs false
set_option linter.unusedVariables false
set_option linter.unnecessarySimpa false
open Go
variable {gl : Globs}

/-- the first error of a list of types -/
def errTys : List Ty → Int
  | [] => 0
  | t :: r => if t.checkN = 0 then errTys r else t.checkN
def ctxN (l : List Ty) : Int := if 16 < l.length then 3 else errTys l
def okNode (t : Tm) : Bool := decide ((t.args.length : Int) = arityI t.kind) && decide (0 ≤ t.index) && (decide (t.kind = 1) || decide (t.index = 0))

end Go.Proofs.YtcldnfbcbkaanaaGreatDoor.Lift

namespace Go.Proofs.YtcldnfbcbkaanaaGreatDoor.Lift
set_option linter.unusedSimpArgs false
set_option linter.unusedVariables false
set_option linter.unnecessarySimpa false
open Go
variable {gl : Globs}

/-- the package's table of arities -/
def arEls : List (List DV) := ints [0, 0, 1, 2, 0, 1, 3, 0, 2, 3, 2, 1, 1, 0]
def known (k : Int) : Bool := decide (1 ≤ k) && decide (k ≤ 13)
theorem arityI_known (k : Int) : known k = decide (0 ≤ arityI k) := by
  unfold known arityI
  by_cases h : 1 ≤ k ∧ k ≤ 13
  · have : k = 1 ∨ k = 2 ∨ k = 3 ∨ k = 4 ∨ k = 5 ∨ k = 6 ∨ k = 7 ∨ k = 8 ∨ k = 9 ∨ k = 10 ∨ k = 11 ∨ k = 12 ∨ k = 13 := by omega
    rcases this with rfl | rfl | rfl | rfl | rfl | rfl | rfl | rfl | rfl | rfl | rfl | rfl | rfl <;> decide
  · rw [if_neg (by omega), if_neg (by omega), if_neg (by omega), if_neg (by omega)]
    simp; omega

theorem arity_ok (har : globOf gl 0 = some arEls) (k : Int) : Con1 Tryz.prog gl 242 [dint k] [] (.tup [dint (if known k = true then arityI k else 0), dbool (known k)]) [] := by
  refine t_in Tryz.func242 ?_
  intro X hP hgl hf hfn hn hR hids hfit
  have hk := har
  simp only [arEls, ints, List.map] at hk
  by_cases hs0 : k = 1
  · refine t_g (j2 @hs0 @hk) ?_
    refine t_r ?_
    simp [go_sem, hP, hgl, hn, known, arityI, hs0] <;> (try omega)
  by_cases hs1 : k = 2
  · refine t_g (j2 @hs1 @hk) ?_
    refine t_r ?_
    simp [go_sem, hP, hgl, hn, known, arityI, hs1] <;> (try omega)
  by_cases hs2 : k = 3
  · refine t_g (j2 @hs2 @hk) ?_
    refine t_r ?_
    simp [go_sem, hP, hgl, hn, known, arityI, hs2] <;> (try omega)
  by_cases hs3 : k = 4
  · refine t_g (j2 @hs3 @hk) ?_
    refine t_r ?_
    simp [go_sem, hP, hgl, hn, known, arityI, hs3] <;> (try omega)
  by_cases hs4 : k = 5
  · refine t_g (j2 @hs4 @hk) ?_
    refine t_r ?_
    simp [go_sem, hP, hgl, hn, known, arityI, hs4] <;> (try omega)
  by_cases hs5 : k = 6
  · refine t_g (j2 @hs5 @hk) ?_
    refine t_r ?_
    simp [go_sem, hP, hgl, hn, known, arityI, hs5] <;> (try omega)
  by_cases hs6 : k = 7
  · refine t_g (j2 @hs6 @hk) ?_
    refine t_r ?_
    simp [go_sem, hP, hgl, hn, known, arityI, hs6] <;> (try omega)
  by_cases hs7 : k = 8
  · refine t_g (j2 @hs7 @hk) ?_
    refine t_r ?_
    simp [go_sem, hP, hgl, hn, known, arityI, hs7] <;> (try omega)
  by_cases hs8 : k = 9
  · refine t_g (j2 @hs8 @hk) ?_
    refine t_r ?_
    simp [go_sem, hP, hgl, hn, known, arityI, hs8] <;> (try omega)
  by_cases hs9 : k = 10
  · refine t_g (j2 @hs9 @hk) ?_
    refine t_r ?_
    simp [go_sem, hP, hgl, hn, known, arityI, hs9] <;> (try omega)
  by_cases hs10 : k = 11
  · refine t_g (j2 @hs10 @hk) ?_
    refine t_r ?_
    simp [go_sem, hP, hgl, hn, known, arityI, hs10] <;> (try omega)
  by_cases hs11 : k = 12
  · refine t_g (j2 @hs11 @hk) ?_
    refine t_r ?_
    simp [go_sem, hP, hgl, hn, known, arityI, hs11] <;> (try omega)
  by_cases hs12 : k = 13
  · refine t_g (j2 @hs12 @hk) ?_
    refine t_r ?_
    simp [go_sem, hP, hgl, hn, known, arityI, hs12] <;> (try omega)
  by_cases hlo : k < 1
  · have : known k = false := by simp [known]; omega
    refine t_g @hlo ?_
    refine t_r ?_
    simp [go_sem, hP, hgl, hn, this] <;> (try omega)
  · have hhi : 14 ≤ k := by omega
    have : known k = false := by simp [known]; omega
    refine t_g (j2 @hlo @hhi) ?_
    refine t_r ?_
    simp [go_sem, hP, hgl, hn, this] <;> (try omega)

theorem typed_ok (k : Int) : Con1 Tryz.prog gl 243 [dint k] [] (dbool (decide (k = 2) || decide (k = 6) || decide (k = 9))) [] := by
  refine t_in Tryz.func243 ?_
  intro X hP hgl hf hfn hn hR hids hfit
  by_cases hs0 : k = 2
  · refine t_g @hs0 ?_
    refine t_r ?_
    simp [go_sem, hP, hgl, hn, hs0] <;> (try omega)
  by_cases hs1 : k = 6
  · refine t_g @hs1 ?_
    refine t_r ?_
    simp [go_sem, hP, hgl, hn, hs1] <;> (try omega)
  by_cases hs2 : k = 9
  · refine t_g @hs2 ?_
    refine t_r ?_
    simp [go_sem, hP, hgl, hn, hs2] <;> (try omega)
  refine t_g (j2 @hs0 (j2 @hs1 @hs2)) ?_
  refine t_r ?_
  simp [go_sem, hP, hgl, hn, hs0, hs1, hs2] <;> (try omega)

theorem notype_ok (t : Ty) : Con1 Tryz.prog gl 244 [t.dv] [] (dbool t.zero) [] := by
  refine t_in Tryz.func244 ?_
  intro X hP hgl hf hfn hn hR hids hfit
  by_cases h : t.kind = 0
  · refine t_g @h ?_
    refine t_r ?_
    simp [go_sem, hP, hgl, hn, Ty.zero, h] <;> (try omega)
  · refine t_g @h ?_
    refine t_r ?_
    simp [go_sem, hP, hgl, hn, Ty.zero, h] <;> (try omega)

def Ty.nodesR (t : Ty) : DV := .tup [dint (if t.shape = true then t.count else 0 : Nat), dbool t.shape]

theorem typenodes_ok (t : Ty) (hc : t.count ≤ 2147483648) : Con1 Tryz.prog gl 239 [t.dv] [] t.nodesR [] := by
  induction t using Ty.ind with
  | h t ih =>
  rw [Ty.count_eq] at hc
  refine t_in Tryz.func239 ?_
  intro X hP hgl hf hfn hn hR hids hfit
  have hlen := Ty.fit_len (hfit t.dv (by simp))
  have hs := Ty.shape_eq t
  have no : t.shape = false → t.nodesR = .tup [dint 0, dbool false] := fun h => by simp [Ty.nodesR, h]
  refine t_rg0 ?_
  refine t_rg0 ?_
  refine t_rg0 ?_
  repeat (first | refine W_seq ?_ | refine W_skip ?_ | refine W_inBlock ?_ | refine W_label ?_)
  refine W_cutP (t.kind = 1 ∨ t.kind = 2 ∨ t.kind = 5 ∨ t.kind = 3 ∨ t.kind = 4) [(.slot 4, .one (.v (dint (wantI t.kind)))), (.loc 1, .row ([.v (dint t.kind), .v (.sl (t.args.map Ty.cells))])), (.slot 1, .one (.loc 1 0))] ?_ ?_
  · intro hrest
    by_cases h1 : t.kind = 1
    · repeat (first | (refine W_sub [] (by simp [go_sem]) (by simp [go_sem, wantI, h1] <;> omega) (by simp [go_sem]) (hrest (by simp [h1]))) | refine W_seq ?_ | refine W_skip ?_ | refine W_block ?_ | refine W_inBlock ?_ | refine W_label ?_ | refine W_exit rfl ?_ | ((first | refine W_reg [] fun K hK => ?_ | refine W_regd (by rw [hP]; exact mixed) [] fun K hK => ?_); simp [go_sem, hP, hgl, hn, h1]; (repeat (refine ⟨by omega, ?_⟩)); (first | refine hK _ ?_ | refine ⟨by rfl, hK _ ?_⟩); clear hK K) | refine W_cond rfl (fun _ => ?_) (fun hq => False.elim (by first | (simp [h1]; done) | (simp [h1]; omega) | (simp [h1] at hq; done) | (simp [h1] at hq; omega))) | refine W_cond rfl (fun hq => False.elim (by first | (simp [h1]; done) | (simp [h1]; omega) | (simp [h1] at hq; done) | (simp [h1] at hq; omega))) (fun _ => ?_))
    by_cases h2 : t.kind = 2
    · repeat (first | (refine W_sub [] (by simp [go_sem]) (by simp [go_sem, wantI, h2] <;> omega) (by simp [go_sem]) (hrest (by simp [h2]))) | refine W_seq ?_ | refine W_skip ?_ | refine W_block ?_ | refine W_inBlock ?_ | refine W_label ?_ | refine W_exit rfl ?_ | ((first | refine W_reg [] fun K hK => ?_ | refine W_regd (by rw [hP]; exact mixed) [] fun K hK => ?_); simp [go_sem, hP, hgl, hn, h2]; (repeat (refine ⟨by omega, ?_⟩)); (first | refine hK _ ?_ | refine ⟨by rfl, hK _ ?_⟩); clear hK K) | refine W_cond rfl (fun _ => ?_) (fun hq => False.elim (by first | (simp [h2]; done) | (simp [h2]; omega) | (simp [h2] at hq; done) | (simp [h2] at hq; omega))) | refine W_cond rfl (fun hq => False.elim (by first | (simp [h2]; done) | (simp [h2]; omega) | (simp [h2] at hq; done) | (simp [h2] at hq; omega))) (fun _ => ?_))
    by_cases h3 : t.kind = 5
    · repeat (first | (refine W_sub [] (by simp [go_sem]) (by simp [go_sem, wantI, h3] <;> omega) (by simp [go_sem]) (hrest (by simp [h3]))) | refine W_seq ?_ | refine W_skip ?_ | refine W_block ?_ | refine W_inBlock ?_ | refine W_label ?_ | refine W_exit rfl ?_ | ((first | refine W_reg [] fun K hK => ?_ | refine W_regd (by rw [hP]; exact mixed) [] fun K hK => ?_); simp [go_sem, hP, hgl, hn, h3]; (repeat (refine ⟨by omega, ?_⟩)); (first | refine hK _ ?_ | refine ⟨by rfl, hK _ ?_⟩); clear hK K) | refine W_cond rfl (fun _ => ?_) (fun hq => False.elim (by first | (simp [h3]; done) | (simp [h3]; omega) | (simp [h3] at hq; done) | (simp [h3] at hq; omega))) | refine W_cond rfl (fun hq => False.elim (by first | (simp [h3]; done) | (simp [h3]; omega) | (simp [h3] at hq; done) | (simp [h3] at hq; omega))) (fun _ => ?_))
    by_cases h4 : t.kind = 3
    · repeat (first | (refine W_sub [] (by simp [go_sem]) (by simp [go_sem, wantI, h4] <;> omega) (by simp [go_sem]) (hrest (by simp [h4]))) | refine W_seq ?_ | refine W_skip ?_ | refine W_block ?_ | refine W_inBlock ?_ | refine W_label ?_ | refine W_exit rfl ?_ | ((first | refine W_reg [] fun K hK => ?_ | refine W_regd (by rw [hP]; exact mixed) [] fun K hK => ?_); simp [go_sem, hP, hgl, hn, h4]; (repeat (refine ⟨by omega, ?_⟩)); (first | refine hK _ ?_ | refine ⟨by rfl, hK _ ?_⟩); clear hK K) | refine W_cond rfl (fun _ => ?_) (fun hq => False.elim (by first | (simp [h4]; done) | (simp [h4]; omega) | (simp [h4] at hq; done) | (simp [h4] at hq; omega))) | refine W_cond rfl (fun hq => False.elim (by first | (simp [h4]; done) | (simp [h4]; omega) | (simp [h4] at hq; done) | (simp [h4] at hq; omega))) (fun _ => ?_))
    by_cases h5 : t.kind = 4
    · repeat (first | (refine W_sub [] (by simp [go_sem]) (by simp [go_sem, wantI, h5] <;> omega) (by simp [go_sem]) (hrest (by simp [h5]))) | refine W_seq ?_ | refine W_skip ?_ | refine W_block ?_ | refine W_inBlock ?_ | refine W_label ?_ | refine W_exit rfl ?_ | ((first | refine W_reg [] fun K hK => ?_ | refine W_regd (by rw [hP]; exact mixed) [] fun K hK => ?_); simp [go_sem, hP, hgl, hn, h5]; (repeat (refine ⟨by omega, ?_⟩)); (first | refine hK _ ?_ | refine ⟨by rfl, hK _ ?_⟩); clear hK K) | refine W_cond rfl (fun _ => ?_) (fun hq => False.elim (by first | (simp [h5]; done) | (simp [h5]; omega) | (simp [h5] at hq; done) | (simp [h5] at hq; omega))) | refine W_cond rfl (fun hq => False.elim (by first | (simp [h5]; done) | (simp [h5]; omega) | (simp [h5] at hq; done) | (simp [h5] at hq; omega))) (fun _ => ?_))
    have hz := no (by rw [hs]; simp [tyKind, h1, h2, h3, h4, h5])
    refine t_g (j2 @h1 (j2 @h2 (j2 @h3 (j2 @h4 @h5)))) ?_
    refine t_r ?_
    simp [go_sem, hP, hgl, hn, hz] <;> (try omega)
  · intro hk
    by_cases hl : (t.args.length : Int) = wantI t.kind
    · have hty : tyKind t.kind t.args.length = true := by
        unfold wantI at hl
        unfold tyKind
        rcases hk with h | h | h | h | h <;> simp [h] at hl ⊢ <;> omega
      refine t_g @hl ?_
      refine t_a ?_
      refine W_sub [] (by simp [go_sem]) (by simp [go_sem, Ty.count.counts] <;> omega) (by simp [go_sem]) (W_listI (t.args) (fun done => Ty.shape.shapes done = true) (fun done rest => [(.slot 5, .one (.v (dint (1 + Ty.count.counts done : Nat)))), (.slot 27, .one (.v (dint done.length))), (.slot 26, .one (.v (dint t.args.length))), (.slot 25, .one (.v (.sl (t.args.map Ty.cells))))]) (rfl) ?_ ?_)
      · intro done x rest hL hg hI hnext
        have hlt : done.length < t.args.length := by rw [hL]; simp
        have hcx : Ty.count.counts t.args = Ty.count.counts done + (x.count + Ty.count.counts rest) := by rw [hL, Ty.counts_append]; rfl
        rw [Ty.counts_append] at hnext
        refine t_rg0 ?_
        refine t_yes ?_
        refine t_rg @hg ?_
        by_cases hx : x.shape = true
        · refine t_a ?_
          first | refine W_reg [] fun K hK => ?_ | refine W_regd (by rw [hP]; exact mixed) [] fun K hK => ?_
          simp [go_sem, hP, hgl, hn, hg, Ty.nodesR, hx]
          repeat (refine ⟨by omega, ?_⟩)
          first | refine vcK_call hP hgl (ih x (List.mem_of_getElem? hg) (by omega)) (by simp [go_sem, hP, hgl, hn, hg, Ty.nodesR, hx]) rfl (by simp [go_sem]) (by simp) (by rw [hn]; exact Nat.le_of_ble_eq_true rfl) ?_ | refine vcdC_call (fun _ _ => vcd_sound) hP hgl (ih x (List.mem_of_getElem? hg) (by omega)) (by simp [go_sem, hP, hgl, hn, hg, Ty.nodesR, hx]) rfl (by simp [go_sem]) (by simp) (by rw [hn]; exact Nat.le_of_ble_eq_true rfl) ?_ | refine vcK_callG hP hgl (ih x (List.mem_of_getElem? hg) (by omega)) (by simp [go_sem, hP, hgl, hn, hg, Ty.nodesR, hx]) rfl (by simp [go_sem]) (by simp) (by rw [hn]; exact Nat.le_of_ble_eq_true rfl) (by simp [go_sem]; rfl) (by rw [hn]; exact Nat.le_of_ble_eq_true rfl) (by simp [go_sem]) ?_ | refine vcdC_callG (fun _ _ => vcd_sound) hP hgl (ih x (List.mem_of_getElem? hg) (by omega)) (by simp [go_sem, hP, hgl, hn, hg, Ty.nodesR, hx]) rfl (by simp [go_sem]) (by simp) (by rw [hn]; exact Nat.le_of_ble_eq_true rfl) (by simp [go_sem]; rfl) (by rw [hn]; exact Nat.le_of_ble_eq_true rfl) (by simp [go_sem]) ?_
          simp [go_sem, hP, hgl, hn, hg, Ty.nodesR, hx]
          refine t_e ?_
          clear hK K
          repeat (first | (refine W_sub [] (by simp [go_sem]) (by simp [go_sem, Ty.count.counts] <;> omega) (by simp [go_sem]) (hnext (by rw [Ty.shapes_append]; simp [hI, Ty.shape.shapes, hx]))) | refine W_seq ?_ | refine W_skip ?_ | refine W_block ?_ | refine W_inBlock ?_ | refine W_label ?_ | refine W_exit rfl ?_ | ((first | refine W_reg [] fun K hK => ?_ | refine W_regd (by rw [hP]; exact mixed) [] fun K hK => ?_); simp [go_sem, hP, hgl, hn, hx]; (repeat (refine ⟨by omega, ?_⟩)); (first | refine hK _ ?_ | refine ⟨by rfl, hK _ ?_⟩); clear hK K) | refine W_cond rfl (fun _ => ?_) (fun hq => False.elim (by first | (simp [hx]; done) | (simp [hx]; omega) | (simp [hx] at hq; done) | (simp [hx] at hq; omega))) | refine W_cond rfl (fun hq => False.elim (by first | (simp [hx]; done) | (simp [hx]; omega) | (simp [hx] at hq; done) | (simp [hx] at hq; omega))) (fun _ => ?_))
        · have hz := no (by rw [hs, hL, Ty.shapes_append]; simp [Ty.shape.shapes, hx])
          refine t_a ?_
          first | refine W_reg [] fun K hK => ?_ | refine W_regd (by rw [hP]; exact mixed) [] fun K hK => ?_
          simp [go_sem, hP, hgl, hn, hg, Ty.nodesR, hx]
          repeat (refine ⟨by omega, ?_⟩)
          first | refine vcK_call hP hgl (ih x (List.mem_of_getElem? hg) (by omega)) (by simp [go_sem, hP, hgl, hn, hg, Ty.nodesR, hx]) rfl (by simp [go_sem]) (by simp) (by rw [hn]; exact Nat.le_of_ble_eq_true rfl) ?_ | refine vcdC_call (fun _ _ => vcd_sound) hP hgl (ih x (List.mem_of_getElem? hg) (by omega)) (by simp [go_sem, hP, hgl, hn, hg, Ty.nodesR, hx]) rfl (by simp [go_sem]) (by simp) (by rw [hn]; exact Nat.le_of_ble_eq_true rfl) ?_ | refine vcK_callG hP hgl (ih x (List.mem_of_getElem? hg) (by omega)) (by simp [go_sem, hP, hgl, hn, hg, Ty.nodesR, hx]) rfl (by simp [go_sem]) (by simp) (by rw [hn]; exact Nat.le_of_ble_eq_true rfl) (by simp [go_sem]; rfl) (by rw [hn]; exact Nat.le_of_ble_eq_true rfl) (by simp [go_sem]) ?_ | refine vcdC_callG (fun _ _ => vcd_sound) hP hgl (ih x (List.mem_of_getElem? hg) (by omega)) (by simp [go_sem, hP, hgl, hn, hg, Ty.nodesR, hx]) rfl (by simp [go_sem]) (by simp) (by rw [hn]; exact Nat.le_of_ble_eq_true rfl) (by simp [go_sem]; rfl) (by rw [hn]; exact Nat.le_of_ble_eq_true rfl) (by simp [go_sem]) ?_
          simp [go_sem, hP, hgl, hn, hg, Ty.nodesR, hx]
          refine t_e ?_
          clear hK K
          refine t_g @hx ?_
          refine t_r ?_
          simp [go_sem, hP, hgl, hn, hz] <;> (try omega)
      · intro hI
        have hz : t.nodesR = .tup [dint t.count, dbool true] := by simp [Ty.nodesR, hs, hty, hI]
        refine t_rg0 ?_
        refine t_no ?_
        refine t_g0 ?_
        refine t_r ?_
        simp [go_sem, hP, hgl, hn, hz, Ty.count_eq] <;> (try omega)
    · have hz := no (by
        rw [hs]
        have : tyKind t.kind t.args.length = false := by
          unfold wantI at hl
          unfold tyKind
          rcases hk with h | h | h | h | h <;> simp [h] at hl ⊢ <;> omega
        simp [this])
      refine t_g @hl ?_
      refine t_r ?_
      simp [go_sem, hP, hgl, hn, hz] <;> (try omega)

theorem checktype_ok (t : Ty) (hc : t.count ≤ 2147483648) : Con1 Tryz.prog gl 193 [t.dv] [] (.tup [dint (if t.checkN = 0 then t.count else 0 : Nat), dint t.checkN]) [] := by
  refine t_in Tryz.func193 ?_
  intro X hP hgl hf hfn hn hR hids hfit
  refine t_g0 ?_
  by_cases h : t.shape = true
  · refine t_a ?_
    first | refine W_reg [] fun K hK => ?_ | refine W_regd (by rw [hP]; exact mixed) [] fun K hK => ?_
    simp [go_sem, hP, hgl, hn, Ty.nodesR, h]
    repeat (refine ⟨by omega, ?_⟩)
    first | refine vcK_call hP hgl (typenodes_ok t hc) (by simp [go_sem, hP, hgl, hn, Ty.nodesR, h]) rfl (by simp [go_sem]) (by simp) (by rw [hn]; exact Nat.le_of_ble_eq_true rfl) ?_ | refine vcdC_call (fun _ _ => vcd_sound) hP hgl (typenodes_ok t hc) (by simp [go_sem, hP, hgl, hn, Ty.nodesR, h]) rfl (by simp [go_sem]) (by simp) (by rw [hn]; exact Nat.le_of_ble_eq_true rfl) ?_ | refine vcK_callG hP hgl (typenodes_ok t hc) (by simp [go_sem, hP, hgl, hn, Ty.nodesR, h]) rfl (by simp [go_sem]) (by simp) (by rw [hn]; exact Nat.le_of_ble_eq_true rfl) (by simp [go_sem]; rfl) (by rw [hn]; exact Nat.le_of_ble_eq_true rfl) (by simp [go_sem]) ?_ | refine vcdC_callG (fun _ _ => vcd_sound) hP hgl (typenodes_ok t hc) (by simp [go_sem, hP, hgl, hn, Ty.nodesR, h]) rfl (by simp [go_sem]) (by simp) (by rw [hn]; exact Nat.le_of_ble_eq_true rfl) (by simp [go_sem]; rfl) (by rw [hn]; exact Nat.le_of_ble_eq_true rfl) (by simp [go_sem]) ?_
    simp [go_sem, hP, hgl, hn, Ty.nodesR, h]
    refine t_e ?_
    clear hK K
    by_cases h2 : 64 < t.count
    · refine t_g (j2 @h @h2) ?_
      refine t_r ?_
      simp [go_sem, hP, hgl, hn, Ty.checkN, h, h2] <;> (try omega)
    · refine t_g (j2 @h @h2) ?_
      refine t_r ?_
      simp [go_sem, hP, hgl, hn, Ty.checkN, h, h2] <;> (try omega)
  · refine t_a ?_
    first | refine W_reg [] fun K hK => ?_ | refine W_regd (by rw [hP]; exact mixed) [] fun K hK => ?_
    simp [go_sem, hP, hgl, hn, Ty.nodesR, h]
    repeat (refine ⟨by omega, ?_⟩)
    first | refine vcK_call hP hgl (typenodes_ok t hc) (by simp [go_sem, hP, hgl, hn, Ty.nodesR, h]) rfl (by simp [go_sem]) (by simp) (by rw [hn]; exact Nat.le_of_ble_eq_true rfl) ?_ | refine vcdC_call (fun _ _ => vcd_sound) hP hgl (typenodes_ok t hc) (by simp [go_sem, hP, hgl, hn, Ty.nodesR, h]) rfl (by simp [go_sem]) (by simp) (by rw [hn]; exact Nat.le_of_ble_eq_true rfl) ?_ | refine vcK_callG hP hgl (typenodes_ok t hc) (by simp [go_sem, hP, hgl, hn, Ty.nodesR, h]) rfl (by simp [go_sem]) (by simp) (by rw [hn]; exact Nat.le_of_ble_eq_true rfl) (by simp [go_sem]; rfl) (by rw [hn]; exact Nat.le_of_ble_eq_true rfl) (by simp [go_sem]) ?_ | refine vcdC_callG (fun _ _ => vcd_sound) hP hgl (typenodes_ok t hc) (by simp [go_sem, hP, hgl, hn, Ty.nodesR, h]) rfl (by simp [go_sem]) (by simp) (by rw [hn]; exact Nat.le_of_ble_eq_true rfl) (by simp [go_sem]; rfl) (by rw [hn]; exact Nat.le_of_ble_eq_true rfl) (by simp [go_sem]) ?_
    simp [go_sem, hP, hgl, hn, Ty.nodesR, h]
    refine t_e ?_
    clear hK K
    refine t_g @h ?_
    refine t_r ?_
    simp [go_sem, hP, hgl, hn, Ty.checkN, h] <;> (try omega)

def okNodeP (t : Tm) : Bool := known t.kind && decide ((t.args.length : Int) = arityI t.kind) && decide (0 ≤ t.index) && (decide (t.index = 0) || decide (t.kind = 1))
theorem okNodeP_eq (t : Tm) : okNodeP t = okNode t := by
  unfold okNodeP okNode
  rw [arityI_known]
  cases h : decide ((t.args.length : Int) = arityI t.kind) with
  | false => simp
  | true =>
    have h1 : (t.args.length : Int) = arityI t.kind := by simpa using h
    have : decide (0 ≤ arityI t.kind) = true := by simp; omega
    rw [this]
    cases decide (0 ≤ t.index) <;> cases decide (t.index = 0) <;> cases decide (t.kind = 1) <;> rfl

def Tm.nodesR (t : Tm) : DV := .tup [dint (if t.shape = true then t.count else 0 : Nat), dbool t.shape]

theorem termnodes_ok (har : globOf gl 0 = some arEls) (t : Tm) (ht : t.tys) (hc : t.count ≤ 2147483648) : Con1 Tryz.prog gl 198 [t.dv] [] t.nodesR [] := by
  induction t using Tm.ind with
  | h t ih =>
  obtain ⟨ht1, ht2⟩ := (Tm.tys_eq t).1 ht
  rw [Tm.count_eq] at hc
  refine t_in Tryz.func198 ?_
  intro X hP hgl hf hfn hn hR hids hfit
  have hlen := Tm.fit_len (hfit t.dv (by simp))
  have hs := Tm.shape_eq t
  have no : t.shape = false → t.nodesR = .tup [dint 0, dbool false] := fun h => by simp [Tm.nodesR, h]
  refine t_g0 ?_
  refine t_c1 trivial (arity_ok har t.kind) ?_
  repeat (first | refine W_seq ?_ | refine W_skip ?_ | refine W_inBlock ?_ | refine W_label ?_)
  refine W_cut [(.slot 42, .one (.v (dbool (!okNodeP t)))), (.loc 1, .row ([.v (dint t.kind), .v (dint t.index), .v (dint t.type.kind), .v (.sl (t.type.args.map Ty.cells)), .v (.sl (t.args.map Tm.cells))])), (.slot 1, .one (.loc 1 0))] ?_ ?_
  · intro hrest
    by_cases h0 : known t.kind = true
    · by_cases hA : (t.args.length : Int) = arityI t.kind
      · by_cases hB : t.index < 0
        · refine t_rg (j2 @h0 (j2 @hA @hB)) ?_
          repeat (first | refine W_inBlock ?_ | refine W_skip ?_ | refine W_label ?_ | refine W_exit rfl ?_)
          refine W_sub [] (by simp [go_sem]) (by simp [go_sem, okNodeP, h0, hA, hB] <;> omega) (by simp [go_sem]) hrest
        · by_cases hD : t.index = 0
          · refine t_rg (j2 @h0 (j2 @hA (j2 @hB @hD))) ?_
            repeat (first | refine W_inBlock ?_ | refine W_skip ?_ | refine W_label ?_ | refine W_exit rfl ?_)
            refine W_sub [] (by simp [go_sem]) (by simp [go_sem, okNodeP, h0, hA, hB, hD] <;> omega) (by simp [go_sem]) hrest
          · by_cases hC : t.kind = 1
            · have h01 : known 1 = true := rfl
              refine t_rg (j2 @h0 (j2 @hA (j2 @hB (j2 @hD (j2 @hC @h01))))) ?_
              repeat (first | refine W_inBlock ?_ | refine W_skip ?_ | refine W_label ?_ | refine W_exit rfl ?_)
              refine W_sub [] (by simp [go_sem]) (by simp [go_sem, okNodeP, h0, hA, hB, hD, hC, h01] <;> omega) (by simp [go_sem]) hrest
            · refine t_rg (j2 @h0 (j2 @hA (j2 @hB (j2 @hD @hC)))) ?_
              repeat (first | refine W_inBlock ?_ | refine W_skip ?_ | refine W_label ?_ | refine W_exit rfl ?_)
              refine W_sub [] (by simp [go_sem]) (by simp [go_sem, okNodeP, h0, hA, hB, hD, hC] <;> omega) (by simp [go_sem]) hrest
      · refine t_rg (j2 @h0 @hA) ?_
        repeat (first | refine W_inBlock ?_ | refine W_skip ?_ | refine W_label ?_ | refine W_exit rfl ?_)
        refine W_sub [] (by simp [go_sem]) (by simp [go_sem, okNodeP, h0, hA] <;> omega) (by simp [go_sem]) hrest
    · refine t_rg @h0 ?_
      repeat (first | refine W_inBlock ?_ | refine W_skip ?_ | refine W_label ?_ | refine W_exit rfl ?_)
      refine W_sub [] (by simp [go_sem]) (by simp [go_sem, okNodeP, h0] <;> omega) (by simp [go_sem]) hrest
  · rw [okNodeP_eq]
    by_cases hok : okNode t = true
    · have hk : tmKind t.kind t.index t.type t.args.length = tyOfKind t.kind t.type := by
        simp only [okNode, Bool.and_eq_true, decide_eq_true_eq] at hok
        simp [tmKind, hok]
      refine t_n @hok ?_
      refine t_c1 trivial (typed_ok t.kind) ?_
      repeat (first | refine W_seq ?_ | refine W_skip ?_ | refine W_inBlock ?_ | refine W_label ?_)
      refine W_cutP (tyOfKind t.kind t.type = true) [(.loc 1, .row ([.v (dint t.kind), .v (dint t.index), .v (dint t.type.kind), .v (.sl (t.type.args.map Ty.cells)), .v (.sl (t.args.map Tm.cells))])), (.slot 1, .one (.loc 1 0))] ?_ ?_
      · intro hrest
        by_cases k2 : t.kind = 2
        · refine t_g @k2 ?_
          refine t_c1 trivial (checktype_ok t.type (by omega)) ?_
          by_cases hc : t.type.checkN = 0
          · refine t_gt (wr []) @k2 (j2 @k2 @hc) (hrest (by simp [tyOfKind, k2, hc]))
          · have hz := no (by rw [hs, hk]; simp [tyOfKind, k2, hc])
            refine t_g @hc ?_
            refine t_r ?_
            simp [go_sem, hP, hgl, hn, hz] <;> (try omega)
        by_cases k6 : t.kind = 6
        · refine t_g @k6 ?_
          refine t_c1 trivial (checktype_ok t.type (by omega)) ?_
          by_cases hc : t.type.checkN = 0
          · refine t_gt (wr []) @k6 (j2 @k6 @hc) (hrest (by simp [tyOfKind, k6, hc]))
          · have hz := no (by rw [hs, hk]; simp [tyOfKind, k6, hc])
            refine t_g @hc ?_
            refine t_r ?_
            simp [go_sem, hP, hgl, hn, hz] <;> (try omega)
        by_cases k9 : t.kind = 9
        · refine t_g @k9 ?_
          refine t_c1 trivial (checktype_ok t.type (by omega)) ?_
          by_cases hc : t.type.checkN = 0
          · refine t_gt (wr []) @k9 (j2 @k9 @hc) (hrest (by simp [tyOfKind, k9, hc]))
          · have hz := no (by rw [hs, hk]; simp [tyOfKind, k9, hc])
            refine t_g @hc ?_
            refine t_r ?_
            simp [go_sem, hP, hgl, hn, hz] <;> (try omega)
        refine t_g (j2 @k2 (j2 @k6 @k9)) ?_
        refine t_c1 trivial (notype_ok t.type) ?_
        by_cases hc : t.type.zero = true
        · refine t_gt (wr []) trivial @hc (hrest (by simp [tyOfKind, k2, k6, k9, hc]))
        · have hz := no (by rw [hs, hk]; simp [tyOfKind, k2, k6, k9, hc])
          refine t_g @hc ?_
          refine t_r ?_
          simp [go_sem, hP, hgl, hn, hz] <;> (try omega)
      · intro hty
        refine t_g0 ?_
        refine t_a ?_
        refine W_sub [] (by simp [go_sem]) (by simp [go_sem, Tm.count.counts] <;> omega) (by simp [go_sem]) (W_listI (t.args) (fun done => Tm.shape.shapes done = true) (fun done rest => [(.slot 8, .one (.v (dint (1 + Tm.count.counts done : Nat)))), (.slot 61, .one (.v (dint done.length))), (.slot 60, .one (.v (dint t.args.length))), (.slot 59, .one (.v (.sl (t.args.map Tm.cells))))]) (rfl) ?_ ?_)
        · intro done x rest hL hg hI hnext
          have hlt : done.length < t.args.length := by rw [hL]; simp
          have hcx : Tm.count.counts t.args = Tm.count.counts done + (x.count + Tm.count.counts rest) := by rw [hL, Tm.counts_append]; rfl
          rw [Tm.counts_append] at hnext
          refine t_rg0 ?_
          refine t_yes ?_
          refine t_rg @hg ?_
          by_cases hx : x.shape = true
          · refine t_a ?_
            first | refine W_reg [] fun K hK => ?_ | refine W_regd (by rw [hP]; exact mixed) [] fun K hK => ?_
            simp [go_sem, hP, hgl, hn, hg, Tm.nodesR, hx]
            repeat (refine ⟨by omega, ?_⟩)
            first | refine vcK_call hP hgl (ih x (List.mem_of_getElem? hg) (ht2 x (List.mem_of_getElem? hg)) (by omega)) (by simp [go_sem, hP, hgl, hn, hg, Tm.nodesR, hx]) rfl (by simp [go_sem]) (by simp) (by rw [hn]; exact Nat.le_of_ble_eq_true rfl) ?_ | refine vcdC_call (fun _ _ => vcd_sound) hP hgl (ih x (List.mem_of_getElem? hg) (ht2 x (List.mem_of_getElem? hg)) (by omega)) (by simp [go_sem, hP, hgl, hn, hg, Tm.nodesR, hx]) rfl (by simp [go_sem]) (by simp) (by rw [hn]; exact Nat.le_of_ble_eq_true rfl) ?_ | refine vcK_callG hP hgl (ih x (List.mem_of_getElem? hg) (ht2 x (List.mem_of_getElem? hg)) (by omega)) (by simp [go_sem, hP, hgl, hn, hg, Tm.nodesR, hx]) rfl (by simp [go_sem]) (by simp) (by rw [hn]; exact Nat.le_of_ble_eq_true rfl) (by simp [go_sem]; rfl) (by rw [hn]; exact Nat.le_of_ble_eq_true rfl) (by simp [go_sem]) ?_ | refine vcdC_callG (fun _ _ => vcd_sound) hP hgl (ih x (List.mem_of_getElem? hg) (ht2 x (List.mem_of_getElem? hg)) (by omega)) (by simp [go_sem, hP, hgl, hn, hg, Tm.nodesR, hx]) rfl (by simp [go_sem]) (by simp) (by rw [hn]; exact Nat.le_of_ble_eq_true rfl) (by simp [go_sem]; rfl) (by rw [hn]; exact Nat.le_of_ble_eq_true rfl) (by simp [go_sem]) ?_
            simp [go_sem, hP, hgl, hn, hg, Tm.nodesR, hx]
            refine t_e ?_
            clear hK K
            repeat (first | (refine W_sub [] (by simp [go_sem]) (by simp [go_sem, Tm.count.counts] <;> omega) (by simp [go_sem]) (hnext (by rw [Tm.shapes_append]; simp [hI, Tm.shape.shapes, hx]))) | refine W_seq ?_ | refine W_skip ?_ | refine W_block ?_ | refine W_inBlock ?_ | refine W_label ?_ | refine W_exit rfl ?_ | ((first | refine W_reg [] fun K hK => ?_ | refine W_regd (by rw [hP]; exact mixed) [] fun K hK => ?_); simp [go_sem, hP, hgl, hn, hx]; (repeat (refine ⟨by omega, ?_⟩)); (first | refine hK _ ?_ | refine ⟨by rfl, hK _ ?_⟩); clear hK K) | refine W_cond rfl (fun _ => ?_) (fun hq => False.elim (by first | (simp [hx]; done) | (simp [hx]; omega) | (simp [hx] at hq; done) | (simp [hx] at hq; omega))) | refine W_cond rfl (fun hq => False.elim (by first | (simp [hx]; done) | (simp [hx]; omega) | (simp [hx] at hq; done) | (simp [hx] at hq; omega))) (fun _ => ?_))
          · have hz := no (by rw [hs, hL, Tm.shapes_append]; simp [Tm.shape.shapes, hx])
            refine t_a ?_
            first | refine W_reg [] fun K hK => ?_ | refine W_regd (by rw [hP]; exact mixed) [] fun K hK => ?_
            simp [go_sem, hP, hgl, hn, hg, Tm.nodesR, hx]
            repeat (refine ⟨by omega, ?_⟩)
            first | refine vcK_call hP hgl (ih x (List.mem_of_getElem? hg) (ht2 x (List.mem_of_getElem? hg)) (by omega)) (by simp [go_sem, hP, hgl, hn, hg, Tm.nodesR, hx]) rfl (by simp [go_sem]) (by simp) (by rw [hn]; exact Nat.le_of_ble_eq_true rfl) ?_ | refine vcdC_call (fun _ _ => vcd_sound) hP hgl (ih x (List.mem_of_getElem? hg) (ht2 x (List.mem_of_getElem? hg)) (by omega)) (by simp [go_sem, hP, hgl, hn, hg, Tm.nodesR, hx]) rfl (by simp [go_sem]) (by simp) (by rw [hn]; exact Nat.le_of_ble_eq_true rfl) ?_ | refine vcK_callG hP hgl (ih x (List.mem_of_getElem? hg) (ht2 x (List.mem_of_getElem? hg)) (by omega)) (by simp [go_sem, hP, hgl, hn, hg, Tm.nodesR, hx]) rfl (by simp [go_sem]) (by simp) (by rw [hn]; exact Nat.le_of_ble_eq_true rfl) (by simp [go_sem]; rfl) (by rw [hn]; exact Nat.le_of_ble_eq_true rfl) (by simp [go_sem]) ?_ | refine vcdC_callG (fun _ _ => vcd_sound) hP hgl (ih x (List.mem_of_getElem? hg) (ht2 x (List.mem_of_getElem? hg)) (by omega)) (by simp [go_sem, hP, hgl, hn, hg, Tm.nodesR, hx]) rfl (by simp [go_sem]) (by simp) (by rw [hn]; exact Nat.le_of_ble_eq_true rfl) (by simp [go_sem]; rfl) (by rw [hn]; exact Nat.le_of_ble_eq_true rfl) (by simp [go_sem]) ?_
            simp [go_sem, hP, hgl, hn, hg, Tm.nodesR, hx]
            refine t_e ?_
            clear hK K
            refine t_g @hx ?_
            refine t_r ?_
            simp [go_sem, hP, hgl, hn, hz] <;> (try omega)
        · intro hI
          have hz : t.nodesR = .tup [dint t.count, dbool true] := by simp [Tm.nodesR, hs, hk, hty, hI]
          refine t_rg0 ?_
          refine t_no ?_
          refine t_g0 ?_
          refine t_r ?_
          simp [go_sem, hP, hgl, hn, hz, Tm.count_eq] <;> (try omega)
    · have hk : tmKind t.kind t.index t.type t.args.length = false := by
        simp only [okNode, Bool.and_eq_true, decide_eq_true_eq] at hok
        simp only [tmKind]
        cases hh : (decide ((t.args.length : Int) = arityI t.kind) && decide (0 ≤ t.index) && (decide (t.kind = 1) || decide (t.index = 0))) with
        | true => exact absurd (by simpa using hh) hok
        | false => rfl
      have hz := no (by rw [hs, hk]; rfl)
      refine t_g @hok ?_
      refine t_r ?_
      simp [go_sem, hP, hgl, hn, hz] <;> (try omega)
end Go.Proofs.YtcldnfbcbkaanaaGreatDoor.Lift

namespace Go.Proofs.YtcldnfbcbkaanaaGreatDoor.Lift
set_option linter.unusedSimpArgs false
set_option linter.unusedVariables false
set_option linter.unnecessarySimpa false
open Go
variable {gl : Globs}

theorem nextD_le {l : List Int} {p : Nat} {n : Int} (h : p ≤ l.length) : (nextD l p n).2 ≤ l.length := by
  unfold nextD
  split
  · exact h
  · split
    · rename_i x hx
      have := (List.getElem?_eq_some_iff.1 hx).1
      simp only; omega
    · exact h

theorem nextD_bd {l : List Int} {p : Nat} {n : Int} (h : 1 ≤ n) : 0 ≤ (nextD l p n).1 ∧ (nextD l p n).1 < n := by
  unfold nextD
  rw [if_neg (by omega)]
  split
  · rename_i x hx
    have := modz_bd x n h
    exact ⟨this.1, this.2.1⟩
  · exact ⟨by simp, by simp; omega⟩

def plainD (l : List Int) (p : Nat) : Ty × Nat :=
  let k := (nextD l p 6).1
  (if k = 0 ∨ k = 1 then Ty.mk 1 [] else if k = 2 then Ty.mk 2 [] else if k = 3 then Ty.mk 5 [] else if k = 4 then Ty.mk 3 [Ty.mk 1 [], Ty.mk 2 []] else Ty.mk 3 [Ty.mk 1 [], Ty.mk 1 []], (nextD l p 6).2)

theorem plain_ok (b : Nat) (l : List Int) (p : Nat) (hl : l.length ≤ 500) (hp : p ≤ l.length) :
    Con1 Tryz.prog gl 21 [ptr b] [(b, deck l p)] (plainD l p).1.dv [(b, deck l (plainD l p).2)] := by
  refine t_in Tryz.func21 ?_
  intro X hP hgl hf hfn hn hR hids hfit
  have hp1 := nextD_le (n := 6) hp
  refine t_rg0 ?_
  refine t_a ?_
  first | refine W_reg [] fun K hK => ?_ | refine W_regd (by rw [hP]; exact mixed) [] fun K hK => ?_
  refine t_s0 ?_
  refine t_c trivial (next_ok b l p 6 (by decide) (by omega)) ?_
  refine t_e ?_
  clear hK K
  have hkb := nextD_bd (l := l) (p := p) (n := 6) (by decide)
  generalize hd : nextD l p 6 = d at *
  obtain ⟨k, q⟩ := d
  by_cases h0 : k = 0
  · refine t_rg @h0 ?_
    refine t_a ?_
    refine W_cond rfl ?_ ?_
    rotate_left
    · intro h; simp at h
    intro _
    refine t_a ?_
    refine W_cond rfl ?_ ?_
    rotate_left
    · intro h; simp at h
    intro _
    refine t_a ?_
    first | refine W_reg [] fun K hK => ?_ | refine W_regd (by rw [hP]; exact mixed) [] fun K hK => ?_
    refine t_s0 ?_
    refine t_c trivial (ref01_nat_ok) ?_
    refine t_e ?_
    clear hK K
    repeat (first | refine W_seq ?_ | refine W_skip ?_ | refine W_block ?_ | refine W_inBlock ?_ | refine W_label ?_ | refine W_exit rfl ?_)
    first | refine W_retR hP hf hfn _ ([(b, deck l q)]) (by first | (simp [go_sem, hP, hgl, hn, plainD, hd, h0]; done) | (simp [go_sem, hP, hgl, hn, plainD, hd, h0]; rfl)) (by simp [go_sem, hP, hgl, hn, plainD, hd, h0]) (by simp) ?_ hR.2 | refine W_endR hP hf hfn _ ([(b, deck l q)]) (by first | (simp [go_sem, hP, hgl, hn, plainD, hd, h0]; done) | (simp [go_sem, hP, hgl, hn, plainD, hd, h0]; rfl)) (by simp [go_sem, hP, hgl, hn, plainD, hd, h0]) (by simp) ?_ hR.2
    rw [hR.1]
    refine ⟨?_, by simp [plainD, hd, h0]⟩
    try simp [plainD, hd, h0]
    try all_goals (simp [Ty.dv, Ty.cells_eq, Ty.kind_mk, Ty.args_mk, Tm.dv, Tm.cells_eq, Tm.kind_mk, Tm.index_mk, Tm.type_mk, Tm.args_mk, Val.dv, Val.cells_eq, Val.kind_mk, Val.num_mk, Val.list_mk, Val.args_mk, ints])
  by_cases h1 : k = 1
  · refine t_rg @h1 ?_
    refine t_a ?_
    refine W_cond rfl ?_ ?_
    · intro h; simp at h
    intro _
    refine t_rg @h1 ?_
    refine t_a ?_
    refine W_cond rfl ?_ ?_
    rotate_left
    · intro h; simp at h
    intro _
    refine t_a ?_
    first | refine W_reg [] fun K hK => ?_ | refine W_regd (by rw [hP]; exact mixed) [] fun K hK => ?_
    refine t_s0 ?_
    refine t_c trivial (ref01_nat_ok) ?_
    refine t_e ?_
    clear hK K
    repeat (first | refine W_seq ?_ | refine W_skip ?_ | refine W_block ?_ | refine W_inBlock ?_ | refine W_label ?_ | refine W_exit rfl ?_)
    first | refine W_retR hP hf hfn _ ([(b, deck l q)]) (by first | (simp [go_sem, hP, hgl, hn, plainD, hd, h1]; done) | (simp [go_sem, hP, hgl, hn, plainD, hd, h1]; rfl)) (by simp [go_sem, hP, hgl, hn, plainD, hd, h1]) (by simp) ?_ hR.2 | refine W_endR hP hf hfn _ ([(b, deck l q)]) (by first | (simp [go_sem, hP, hgl, hn, plainD, hd, h1]; done) | (simp [go_sem, hP, hgl, hn, plainD, hd, h1]; rfl)) (by simp [go_sem, hP, hgl, hn, plainD, hd, h1]) (by simp) ?_ hR.2
    rw [hR.1]
    refine ⟨?_, by simp [plainD, hd, h1]⟩
    try simp [plainD, hd, h1]
    try all_goals (simp [Ty.dv, Ty.cells_eq, Ty.kind_mk, Ty.args_mk, Tm.dv, Tm.cells_eq, Tm.kind_mk, Tm.index_mk, Tm.type_mk, Tm.args_mk, Val.dv, Val.cells_eq, Val.kind_mk, Val.num_mk, Val.list_mk, Val.args_mk, ints])
  by_cases h2 : k = 2
  · refine t_rg @h2 ?_
    refine t_a ?_
    refine W_cond rfl ?_ ?_
    · intro h; simp at h
    intro _
    refine t_rg @h2 ?_
    refine t_a ?_
    refine W_cond rfl ?_ ?_
    · intro h; simp at h
    intro _
    refine t_rg @h2 ?_
    refine t_a ?_
    refine W_cond rfl ?_ ?_
    rotate_left
    · intro h; simp at h
    intro _
    refine t_a ?_
    first | refine W_reg [] fun K hK => ?_ | refine W_regd (by rw [hP]; exact mixed) [] fun K hK => ?_
    refine t_s0 ?_
    refine t_c trivial (ref01_list_ok) ?_
    refine t_e ?_
    clear hK K
    repeat (first | refine W_seq ?_ | refine W_skip ?_ | refine W_block ?_ | refine W_inBlock ?_ | refine W_label ?_ | refine W_exit rfl ?_)
    first | refine W_retR hP hf hfn _ ([(b, deck l q)]) (by first | (simp [go_sem, hP, hgl, hn, plainD, hd, h2]; done) | (simp [go_sem, hP, hgl, hn, plainD, hd, h2]; rfl)) (by simp [go_sem, hP, hgl, hn, plainD, hd, h2]) (by simp) ?_ hR.2 | refine W_endR hP hf hfn _ ([(b, deck l q)]) (by first | (simp [go_sem, hP, hgl, hn, plainD, hd, h2]; done) | (simp [go_sem, hP, hgl, hn, plainD, hd, h2]; rfl)) (by simp [go_sem, hP, hgl, hn, plainD, hd, h2]) (by simp) ?_ hR.2
    rw [hR.1]
    refine ⟨?_, by simp [plainD, hd, h2]⟩
    try simp [plainD, hd, h2]
    try all_goals (simp [Ty.dv, Ty.cells_eq, Ty.kind_mk, Ty.args_mk, Tm.dv, Tm.cells_eq, Tm.kind_mk, Tm.index_mk, Tm.type_mk, Tm.args_mk, Val.dv, Val.cells_eq, Val.kind_mk, Val.num_mk, Val.list_mk, Val.args_mk, ints])
  by_cases h3 : k = 3
  · refine t_rg @h3 ?_
    refine t_a ?_
    refine W_cond rfl ?_ ?_
    · intro h; simp at h
    intro _
    refine t_rg @h3 ?_
    refine t_a ?_
    refine W_cond rfl ?_ ?_
    · intro h; simp at h
    intro _
    refine t_rg @h3 ?_
    refine t_a ?_
    refine W_cond rfl ?_ ?_
    · intro h; simp at h
    intro _
    refine t_rg @h3 ?_
    refine t_a ?_
    refine W_cond rfl ?_ ?_
    rotate_left
    · intro h; simp at h
    intro _
    refine t_a ?_
    first | refine W_reg [] fun K hK => ?_ | refine W_regd (by rw [hP]; exact mixed) [] fun K hK => ?_
    refine t_s0 ?_
    refine t_c trivial (ref01_unit_ok) ?_
    refine t_e ?_
    clear hK K
    repeat (first | refine W_seq ?_ | refine W_skip ?_ | refine W_block ?_ | refine W_inBlock ?_ | refine W_label ?_ | refine W_exit rfl ?_)
    first | refine W_retR hP hf hfn _ ([(b, deck l q)]) (by first | (simp [go_sem, hP, hgl, hn, plainD, hd, h3]; done) | (simp [go_sem, hP, hgl, hn, plainD, hd, h3]; rfl)) (by simp [go_sem, hP, hgl, hn, plainD, hd, h3]) (by simp) ?_ hR.2 | refine W_endR hP hf hfn _ ([(b, deck l q)]) (by first | (simp [go_sem, hP, hgl, hn, plainD, hd, h3]; done) | (simp [go_sem, hP, hgl, hn, plainD, hd, h3]; rfl)) (by simp [go_sem, hP, hgl, hn, plainD, hd, h3]) (by simp) ?_ hR.2
    rw [hR.1]
    refine ⟨?_, by simp [plainD, hd, h3]⟩
    try simp [plainD, hd, h3]
    try all_goals (simp [Ty.dv, Ty.cells_eq, Ty.kind_mk, Ty.args_mk, Tm.dv, Tm.cells_eq, Tm.kind_mk, Tm.index_mk, Tm.type_mk, Tm.args_mk, Val.dv, Val.cells_eq, Val.kind_mk, Val.num_mk, Val.list_mk, Val.args_mk, ints])
  by_cases h4 : k = 4
  · refine t_rg @h4 ?_
    refine t_a ?_
    refine W_cond rfl ?_ ?_
    · intro h; simp at h
    intro _
    refine t_rg @h4 ?_
    refine t_a ?_
    refine W_cond rfl ?_ ?_
    · intro h; simp at h
    intro _
    refine t_rg @h4 ?_
    refine t_a ?_
    refine W_cond rfl ?_ ?_
    · intro h; simp at h
    intro _
    refine t_rg @h4 ?_
    refine t_a ?_
    refine W_cond rfl ?_ ?_
    · intro h; simp at h
    intro _
    refine t_rg @h4 ?_
    refine t_a ?_
    refine W_cond rfl ?_ ?_
    rotate_left
    · intro h; simp at h
    intro _
    refine t_a ?_
    first | refine W_reg [] fun K hK => ?_ | refine W_regd (by rw [hP]; exact mixed) [] fun K hK => ?_
    refine t_s0 ?_
    refine t_c trivial (ref01_nat_ok) ?_
    refine t_c trivial (ref01_list_ok) ?_
    refine t_c trivial (ref01_two_ok (Ty.mk 1 []) (Ty.mk 2 [])) ?_
    refine t_e ?_
    clear hK K
    repeat (first | refine W_seq ?_ | refine W_skip ?_ | refine W_block ?_ | refine W_inBlock ?_ | refine W_label ?_ | refine W_exit rfl ?_)
    first | refine W_retR hP hf hfn _ ([(b, deck l q)]) (by first | (simp [go_sem, hP, hgl, hn, plainD, hd, h4]; done) | (simp [go_sem, hP, hgl, hn, plainD, hd, h4]; rfl)) (by simp [go_sem, hP, hgl, hn, plainD, hd, h4]) (by simp) ?_ hR.2 | refine W_endR hP hf hfn _ ([(b, deck l q)]) (by first | (simp [go_sem, hP, hgl, hn, plainD, hd, h4]; done) | (simp [go_sem, hP, hgl, hn, plainD, hd, h4]; rfl)) (by simp [go_sem, hP, hgl, hn, plainD, hd, h4]) (by simp) ?_ hR.2
    rw [hR.1]
    refine ⟨?_, by simp [plainD, hd, h4]⟩
    try simp [plainD, hd, h4]
    try all_goals (simp [Ty.dv, Ty.cells_eq, Ty.kind_mk, Ty.args_mk, Tm.dv, Tm.cells_eq, Tm.kind_mk, Tm.index_mk, Tm.type_mk, Tm.args_mk, Val.dv, Val.cells_eq, Val.kind_mk, Val.num_mk, Val.list_mk, Val.args_mk, ints])
  · have h5 : k = 5 := by simp at hkb; omega
    refine t_rg @h5 ?_
    refine t_a ?_
    refine W_cond rfl ?_ ?_
    · intro h; simp at h
    intro _
    refine t_rg @h5 ?_
    refine t_a ?_
    refine W_cond rfl ?_ ?_
    · intro h; simp at h
    intro _
    refine t_rg @h5 ?_
    refine t_a ?_
    refine W_cond rfl ?_ ?_
    · intro h; simp at h
    intro _
    refine t_rg @h5 ?_
    refine t_a ?_
    refine W_cond rfl ?_ ?_
    · intro h; simp at h
    intro _
    refine t_rg @h5 ?_
    refine t_a ?_
    refine W_cond rfl ?_ ?_
    · intro h; simp at h
    intro _
    refine t_a ?_
    first | refine W_reg [] fun K hK => ?_ | refine W_regd (by rw [hP]; exact mixed) [] fun K hK => ?_
    refine t_s0 ?_
    refine t_c trivial (ref01_nat_ok) ?_
    refine t_c trivial (ref01_nat_ok) ?_
    refine t_c trivial (ref01_two_ok (Ty.mk 1 []) (Ty.mk 1 [])) ?_
    refine t_e ?_
    clear hK K
    repeat (first | refine W_seq ?_ | refine W_skip ?_ | refine W_block ?_ | refine W_inBlock ?_ | refine W_label ?_ | refine W_exit rfl ?_)
    first | refine W_retR hP hf hfn _ ([(b, deck l q)]) (by first | (simp [go_sem, hP, hgl, hn, plainD, hd, h5]; done) | (simp [go_sem, hP, hgl, hn, plainD, hd, h5]; rfl)) (by simp [go_sem, hP, hgl, hn, plainD, hd, h5]) (by simp) ?_ hR.2 | refine W_endR hP hf hfn _ ([(b, deck l q)]) (by first | (simp [go_sem, hP, hgl, hn, plainD, hd, h5]; done) | (simp [go_sem, hP, hgl, hn, plainD, hd, h5]; rfl)) (by simp [go_sem, hP, hgl, hn, plainD, hd, h5]) (by simp) ?_ hR.2
    rw [hR.1]
    refine ⟨?_, by simp [plainD, hd, h5]⟩
    try simp [plainD, hd, h5]
    try all_goals (simp [Ty.dv, Ty.cells_eq, Ty.kind_mk, Ty.args_mk, Tm.dv, Tm.cells_eq, Tm.kind_mk, Tm.index_mk, Tm.type_mk, Tm.args_mk, Val.dv, Val.cells_eq, Val.kind_mk, Val.num_mk, Val.list_mk, Val.args_mk, ints])

/-- n numbers below 4 -/
def numsD (l : List Int) (p : Nat) : Nat → List Int × Nat
  | 0 => ([], p)
  | n + 1 => ((nextD l p 4).1 :: (numsD l (nextD l p 4).2 n).1, (numsD l (nextD l p 4).2 n).2)

def mkVal (l : List Int) : Ty → Nat → Val × Nat
  | .mk k ts, p =>
    if k = 1 then (Val.mk 1 (nextD l p 5).1 [] [], (nextD l p 5).2)
    else if k = 2 then (Val.mk 2 0 (numsD l (nextD l p 4).2 (nextD l p 4).1.toNat).1 [], (numsD l (nextD l p 4).2 (nextD l p 4).1.toNat).2)
    else if k = 3 then (Val.mk 3 0 [] (mkVals ts p).1, (mkVals ts p).2)
    else (Val.mk 4 0 [] [], p)
where
  mkVals : List Ty → Nat → List Val × Nat
    | [], p => ([], p)
    | t :: r, p => ((mkVal l t p).1 :: (mkVals r (mkVal l t p).2).1, (mkVals r (mkVal l t p).2).2)

/-- the types of plain values: a pair has two parts -/
def Ty.plain : Ty → Prop
  | .mk k ts => (k = 3 → ts.length = 2) ∧ plains ts
where
  plains : List Ty → Prop
    | [] => True
    | t :: r => t.plain ∧ plains r

theorem Ty.plains_iff (ts : List Ty) : Ty.plain.plains ts ↔ ∀ a ∈ ts, a.plain := by
  induction ts with
  | nil => simp [Ty.plain.plains]
  | cons a r ih => simp [Ty.plain.plains, ih]
theorem Ty.plain_eq (t : Ty) : t.plain ↔ (t.kind = 3 → t.args.length = 2) ∧ ∀ a ∈ t.args, a.plain := by
  cases t with
  | mk k ts => simp only [Ty.plain, Ty.plains_iff, Ty.kind, Ty.args]
theorem mkVal_eq (l : List Int) (t : Ty) (p : Nat) : mkVal l t p =
    if t.kind = 1 then (Val.mk 1 (nextD l p 5).1 [] [], (nextD l p 5).2)
    else if t.kind = 2 then (Val.mk 2 0 (numsD l (nextD l p 4).2 (nextD l p 4).1.toNat).1 [], (numsD l (nextD l p 4).2 (nextD l p 4).1.toNat).2)
    else if t.kind = 3 then (Val.mk 3 0 [] (mkVal.mkVals l t.args p).1, (mkVal.mkVals l t.args p).2)
    else (Val.mk 4 0 [] [], p) := by
  cases t; rfl
theorem numsD_le {l : List Int} : ∀ {n p : Nat}, p ≤ l.length → (numsD l p n).2 ≤ l.length
  | 0, _, h => h
  | n + 1, _, h => numsD_le (n := n) (nextD_le h)
theorem mkVal_le {l : List Int} (t : Ty) : ∀ {p : Nat}, p ≤ l.length → (mkVal l t p).2 ≤ l.length := by
  induction t using Ty.ind with
  | h t ih =>
  intro p hp
  have hs : ∀ ts : List Ty, (∀ a ∈ ts, a ∈ t.args) → ∀ p, p ≤ l.length → (mkVal.mkVals l ts p).2 ≤ l.length := by
    intro ts
    induction ts with
    | nil => intro _ p hp; exact hp
    | cons a r ihr => intro h p hp; exact ihr (fun b hb => h b (List.mem_cons_of_mem _ hb)) _ (ih a (h a (by simp)) hp)
  rw [mkVal_eq]
  split
  · exact nextD_le hp
  · split
    · exact numsD_le (nextD_le hp)
    · split
      · exact hs t.args (fun _ h => h) p hp
      · exact hp

theorem mkval_ok (t : Ty) (b : Nat) (l : List Int) (p : Nat) (hl : l.length ≤ 500) (hp : p ≤ l.length) (ht : t.plain) :
    Con1 Tryz.prog gl 18 [ptr b, t.dv] [(b, deck l p)] (mkVal l t p).1.dv [(b, deck l (mkVal l t p).2)] := by
  induction t using Ty.ind generalizing p with
  | h t ih =>
  refine t_in Tryz.func18 ?_
  intro X hP hgl hf hfn hn hR hids hfit
  have hp5 := nextD_le (n := 5) hp
  have hp4 := nextD_le (n := 4) hp
  rw [mkVal_eq] at hR
  refine t_rg0 ?_
  refine t_rg0 ?_
  by_cases h1 : t.kind = 1
  · rw [if_pos h1] at hR
    refine t_rg @h1 ?_
    refine t_a ?_
    refine W_cond rfl ?_ ?_
    rotate_left
    · intro h; simp at h
    intro _
    refine t_a ?_
    first | refine W_reg [] fun K hK => ?_ | refine W_regd (by rw [hP]; exact mixed) [] fun K hK => ?_
    refine t_s0 ?_
    refine t_c trivial (next_ok b l p 5 (by decide) (by omega)) ?_
    refine t_e ?_
    clear hK K
    repeat (first | refine W_seq ?_ | refine W_skip ?_ | refine W_block ?_ | refine W_inBlock ?_ | refine W_label ?_ | refine W_exit rfl ?_)
    first | refine W_retR hP hf hfn _ ([(b, deck l (nextD l p 5).2)]) (by first | (simp [go_sem, hP, hgl, hn]; done) | (simp [go_sem, hP, hgl, hn]; rfl)) (by simp [go_sem, hP, hgl, hn]) (by simp) ?_ hR.2 | refine W_endR hP hf hfn _ ([(b, deck l (nextD l p 5).2)]) (by first | (simp [go_sem, hP, hgl, hn]; done) | (simp [go_sem, hP, hgl, hn]; rfl)) (by simp [go_sem, hP, hgl, hn]) (by simp) ?_ hR.2
    rw [hR.1]
    refine ⟨?_, by simp⟩
    try simp
    try all_goals (simp [Ty.dv, Ty.cells_eq, Ty.kind_mk, Ty.args_mk, Tm.dv, Tm.cells_eq, Tm.kind_mk, Tm.index_mk, Tm.type_mk, Tm.args_mk, Val.dv, Val.cells_eq, Val.kind_mk, Val.num_mk, Val.list_mk, Val.args_mk, ints])
  rw [if_neg h1] at hR
  by_cases h2 : t.kind = 2
  · rw [if_pos h2] at hR
    have hkb := nextD_bd (l := l) (p := p) (n := 4) (by decide)
    obtain ⟨r0, hr0⟩ : ∃ r0 : Nat, (nextD l p 4).1 = r0 := ⟨(nextD l p 4).1.toNat, by omega⟩
    rw [hr0, Int.toNat_natCast] at hR
    rw [hr0] at hkb
    refine t_rg @h2 ?_
    refine t_a ?_
    refine W_cond rfl ?_ ?_
    · intro h; simp at h
    intro _
    refine t_rg @h2 ?_
    refine t_a ?_
    refine W_cond rfl ?_ ?_
    rotate_left
    · intro h; simp at h
    intro _
    refine t_rg0 ?_
    refine t_a ?_
    first | refine W_reg [] fun K hK => ?_ | refine W_regd (by rw [hP]; exact mixed) [] fun K hK => ?_
    refine t_s0 ?_
    refine t_c trivial (next_ok b l p 4 (by decide) (by omega)) ?_
    refine t_e ?_
    clear hK K
    refine t_a ?_
    refine W_sub [(1005, 0)] (by simp [go_sem]) (by simp [go_sem, hr0, ints_nil]) (by simp [go_sem]) (W_rounds (fun x : List Int × Nat × Nat => x.2.1 ≤ l.length ∧ (x.1 ++ (numsD l x.2.1 x.2.2).1, (numsD l x.2.1 x.2.2).2) = numsD l (nextD l p 4).2 r0 ∧ x.1.length + x.2.2 ≤ 4)
      (fun x => [(.slot 6, .one (.v (dint x.2.2))), (.heap b, .row [.v (.sl (ints l)), .v (dint x.2.1)]), (.loc 5, .row [.v (dint 2), .v (dint 0), .own 1005 (ints x.1), .own 0 []]), (.tok 1005, .tk 1 x.1.length), (.slot 5, .one (.loc 5 0)), (.loc 4, .row [.v (dint 0), .v (dint 0), .own 0 [], .own 0 []]), (.slot 4, .one (.loc 4 0)), (.slot 0, .one (.v (ptr b)))])
      (fun x => x.2.2) ([], (nextD l p 4).2, r0) ⟨hp4, by simp, by simp; omega⟩ ?_)
    rintro ⟨acc, q, r⟩ ⟨i1, i2, i3⟩ ihr
    simp only at i1 i2 i3
    cases r with
    | zero =>
      simp only [numsD, List.append_nil] at i2
      refine t_rg0 ?_
      refine t_a ?_
      refine W_cond rfl ?_ ?_
      · intro h; simp at h
      intro _
      refine t_rg0 ?_
      repeat (first | refine W_seq ?_ | refine W_skip ?_ | refine W_block ?_ | refine W_inBlock ?_ | refine W_label ?_ | refine W_exit rfl ?_)
      first | refine W_retR hP hf hfn _ ([(b, deck l q)]) (by first | (simp [go_sem, hP, hgl, hn, ← i2]; done) | (simp [go_sem, hP, hgl, hn, ← i2]; rfl)) (by simp [go_sem, hP, hgl, hn, ← i2]) (by simp) ?_ hR.2 | refine W_endR hP hf hfn _ ([(b, deck l q)]) (by first | (simp [go_sem, hP, hgl, hn, ← i2]; done) | (simp [go_sem, hP, hgl, hn, ← i2]; rfl)) (by simp [go_sem, hP, hgl, hn, ← i2]) (by simp) ?_ hR.2
      rw [hR.1]
      refine ⟨?_, by simp [← i2]⟩
      try simp [← i2]
      try all_goals (simp [Ty.dv, Ty.cells_eq, Ty.kind_mk, Ty.args_mk, Tm.dv, Tm.cells_eq, Tm.kind_mk, Tm.index_mk, Tm.type_mk, Tm.args_mk, Val.dv, Val.cells_eq, Val.kind_mk, Val.num_mk, Val.list_mk, Val.args_mk, ints])
    | succ r =>
      have hq := nextD_le (n := 4) i1
      refine t_rg0 ?_
      refine t_yes ?_
      refine t_a ?_
      first | refine W_reg [] fun K hK => ?_ | refine W_regd (by rw [hP]; exact mixed) [] fun K hK => ?_
      refine t_s0 ?_
      refine t_c trivial (next_ok b l q 4 (by decide) (by omega)) ?_
      refine t_e ?_
      clear hK K
      refine t_rg0 ?_
      refine t_b ?_
      refine t_sub [(1005, 28)] (j2 @ints_cons @ints_nil) (ihr (acc ++ [(nextD l q 4).1], (nextD l q 4).2, r) ⟨hq, by rw [← i2]; simp [numsD], by simp; omega⟩ (by simp))
  rw [if_neg h2] at hR
  by_cases h3 : t.kind = 3
  · rw [if_pos h3] at hR
    obtain ⟨ht1, ht2⟩ := (Ty.plain_eq t).1 ht
    obtain ⟨x, y, hxy⟩ : ∃ x y, t.args = [x, y] := by
      have := ht1 h3
      match h : t.args, this with
      | [x, y], _ => exact ⟨x, y, rfl⟩
    have hpx := mkVal_le (l := l) x hp
    refine t_rg @h3 ?_
    refine t_no ?_
    refine t_rg @h3 ?_
    refine t_no ?_
    refine t_rg @h3 ?_
    refine t_yes ?_
    refine t_a ?_
    first | refine W_reg [] fun K hK => ?_ | refine W_regd (by rw [hP]; exact mixed) [] fun K hK => ?_
    refine t_s @hxy ?_
    refine t_c @hxy (ih x (by simp [hxy]) p hp (ht2 x (by simp [hxy]))) ?_
    refine t_c @hxy (ih y (by simp [hxy]) _ hpx (ht2 y (by simp [hxy]))) ?_
    refine t_e ?_
    clear hK K
    repeat (first | refine W_seq ?_ | refine W_skip ?_ | refine W_block ?_ | refine W_inBlock ?_ | refine W_label ?_ | refine W_exit rfl ?_)
    first | refine W_retR hP hf hfn _ ([(b, deck l (mkVal l y (mkVal l x p).2).2)]) (by first | (simp [go_sem, hP, hgl, hn, hxy, mkVal.mkVals]; done) | (simp [go_sem, hP, hgl, hn, hxy, mkVal.mkVals]; rfl)) (by simp [go_sem, hP, hgl, hn, hxy, mkVal.mkVals]) (by simp) ?_ hR.2 | refine W_endR hP hf hfn _ ([(b, deck l (mkVal l y (mkVal l x p).2).2)]) (by first | (simp [go_sem, hP, hgl, hn, hxy, mkVal.mkVals]; done) | (simp [go_sem, hP, hgl, hn, hxy, mkVal.mkVals]; rfl)) (by simp [go_sem, hP, hgl, hn, hxy, mkVal.mkVals]) (by simp) ?_ hR.2
    rw [hR.1]
    refine ⟨?_, by simp [hxy, mkVal.mkVals]⟩
    try simp [hxy, mkVal.mkVals]
    try all_goals (simp [Ty.dv, Ty.cells_eq, Ty.kind_mk, Ty.args_mk, Tm.dv, Tm.cells_eq, Tm.kind_mk, Tm.index_mk, Tm.type_mk, Tm.args_mk, Val.dv, Val.cells_eq, Val.kind_mk, Val.num_mk, Val.list_mk, Val.args_mk, ints])
  rw [if_neg h3] at hR
  refine t_rg @h1 ?_
  refine t_no ?_
  refine t_rg @h2 ?_
  refine t_no ?_
  refine t_rg @h3 ?_
  refine t_no ?_
  refine t_rg0 ?_
  repeat (first | refine W_seq ?_ | refine W_skip ?_ | refine W_block ?_ | refine W_inBlock ?_ | refine W_label ?_ | refine W_exit rfl ?_)
  first | refine W_retR hP hf hfn _ ([(b, deck l p)]) (by first | (simp [go_sem, hP, hgl, hn]; done) | (simp [go_sem, hP, hgl, hn]; rfl)) (by simp [go_sem, hP, hgl, hn]) (by simp) ?_ hR.2 | refine W_endR hP hf hfn _ ([(b, deck l p)]) (by first | (simp [go_sem, hP, hgl, hn]; done) | (simp [go_sem, hP, hgl, hn]; rfl)) (by simp [go_sem, hP, hgl, hn]) (by simp) ?_ hR.2
  rw [hR.1]
  refine ⟨?_, by simp⟩
  try simp
  try all_goals (simp [Ty.dv, Ty.cells_eq, Ty.kind_mk, Ty.args_mk, Tm.dv, Tm.cells_eq, Tm.kind_mk, Tm.index_mk, Tm.type_mk, Tm.args_mk, Val.dv, Val.cells_eq, Val.kind_mk, Val.num_mk, Val.list_mk, Val.args_mk, ints])
end Go.Proofs.YtcldnfbcbkaanaaGreatDoor.Lift

namespace Go.Proofs.YtcldnfbcbkaanaaGreatDoor.Lift
set_option linter.unusedSimpArgs false
set_option linter.unusedVariables false
set_option linter.unnecessarySimpa false
open Go
variable {gl : Globs}

theorem Val.fit_args {t : Val} (h : t.dv.fit) : t.args.length ≤ 2147483648 := ((Val.fit_eq t).1 ((Val.dv_fit t).1 h)).2.2.2.1
theorem Val.fit_list {t : Val} (h : t.dv.fit) : t.list.length ≤ 2147483648 := ((Val.fit_eq t).1 ((Val.dv_fit t).1 h)).2.2.1.1

theorem of_ok (k : Int) (l : List Tm) : Con1 Tryz.prog gl 278 [dint k, .sl (l.map Tm.cells)] [] (Tm.mk k 0 (Ty.mk 0 []) l).dv [] := by
  refine t_in Tryz.func278 ?_
  intro X hP hgl hf hfn hn hR hids hfit
  refine t_rg0 ?_
  refine t_rg0 ?_
  refine t_r ?_
  simp [go_sem, hP, hgl, hn] <;> (try omega)
  all_goals exact t_f

def numTm : Nat → Tm
  | 0 => Tm.mk 4 0 (Ty.mk 0 []) []
  | n + 1 => Tm.mk 5 0 (Ty.mk 0 []) [numTm n]

def sizeI (n : Int) : Int := min n 4096 + 1
/-- the number of nodes of a value, and whether all have a form -/
def Val.okB (v : Val) : Bool :=
  if v.kind = 1 then decide (0 ≤ v.num) && decide (v.list.length = 0) && decide (v.args.length = 0)
  else if v.kind = 2 then decide (v.num = 0) && !v.list.any (fun n => decide (n < 0)) && decide (v.args.length = 0)
  else if v.kind = 3 then decide (v.num = 0) && decide (v.list.length = 0) && decide (v.args.length = 2)
  else if v.kind = 4 then decide (v.num = 0) && decide (v.list.length = 0) && decide (v.args.length = 0)
  else false

theorem negative_ok (n : Int) : Con1 Tryz.prog gl 196 [dint n] [] (dbool (decide (n < 0))) [] := by
  refine t_in Tryz.func196 ?_
  intro X hP hgl hf hfn hn hR hids hfit
  refine t_rg0 ?_
  refine t_rg0 ?_
  refine t_r ?_
  simp [go_sem, hP, hgl, hn] <;> (try omega)

abbrev fnv (f : Nat) : DV := .prim (.func (.func f) #[] #[])

/-- the first place of a negative number -/
def idxNeg (l : List Int) : Int := match l.findIdx? (fun n => decide (n < 0)) with
  | some k => k
  | none => -1

theorem indexNeg_ok (l : List Int) : Con1 Tryz.prog gl 241 [.sl (ints l), fnv 196] [] (dint (idxNeg l)) [] := by
  refine t_in Tryz.func241 ?_
  intro X hP hgl hf hfn hn hR hids hfit
  have hlen : l.length ≤ 2147483648 := by simpa [ints] using sl_len (hfit (.sl (ints l)) (by simp))
  refine t_rg0 ?_
  refine t_rg0 ?_
  refine t_a ?_
  refine t_sub [] trivial (W_upto (l.length) (fun i => ∀ (j : Nat) (x : Int), j < i → l[j]? = some x → 0 ≤ x) (fun i => [(.slot 8, .one (.v (dint i))), (.slot 7, .one (.v (dint l.length))), (.slot 6, .one (.v (.sl (ints l)))), (.slot 0, .one (.v (.sl (ints l)))), (.slot 1, .one (.v (fnv 196)))]) (by intro j x h; omega) ?_ ?_)
  · intro i hlt hI hnext
    obtain ⟨x, hx⟩ : ∃ x, l[i]? = some x := ⟨_, List.getElem?_eq_getElem hlt⟩
    have hg := ints_get hx
    refine t_rg0 ?_
    refine t_yes ?_
    refine t_rg0 ?_
    refine t_a ?_
    first | refine W_reg [] fun K hK => ?_ | refine W_regd (by rw [hP]; exact mixed) [] fun K hK => ?_
    refine t_s @hg ?_
    repeat (refine ⟨by omega, ?_⟩)
    refine vcK_callF hP hgl (negative_ok x) (by simp [go_sem]) (by simp [go_sem, hP, hgl, hn]) rfl (by simp [go_sem]) (by simp) (by rw [hn]; exact Nat.le_of_ble_eq_true rfl) ?_
    simp [go_sem, hP, hgl, hn]
    refine t_e ?_
    clear hK K
    by_cases hneg : x < 0
    · refine t_a ?_
      refine W_cond rfl ?_ ?_
      rotate_left
      · intro h; simp [hneg] at h
      intro _
      refine t_rg0 ?_
      refine t_r ?_
      simp [go_sem, hP, hgl, hn] <;> (try omega)
      unfold idxNeg
      have : l.findIdx? (fun n => decide (n < 0)) = some i := by
        rw [List.findIdx?_eq_some_iff_getElem]
        obtain ⟨h1, h2⟩ := List.getElem?_eq_some_iff.1 hx
        refine ⟨h1, by simp [h2, hneg], fun j hj => ?_⟩
        have := hI j l[j] hj (List.getElem?_eq_getElem (by omega))
        simp; omega
      rw [this]
    · refine t_a ?_
      refine W_cond rfl ?_ ?_
      · intro h; simp [hneg] at h
      intro _
      refine t_rg0 ?_
      refine t_b ?_
      refine t_sub [] trivial (hnext ?_)
      intro j y hj hy
      by_cases hji : j = i
      · subst hji; rw [hx] at hy; cases hy; omega
      · exact hI j y (by omega) hy
  · intro hI
    refine t_rg0 ?_
    refine t_no ?_
    refine t_rg0 ?_
    refine t_r ?_
    simp [go_sem, hP, hgl, hn] <;> (try omega)
    unfold idxNeg
    have : l.findIdx? (fun n => decide (n < 0)) = none := by
      rw [List.findIdx?_eq_none_iff]
      intro x hx
      obtain ⟨i, hi, rfl⟩ := List.mem_iff_getElem.1 hx
      have := hI i l[i] hi (List.getElem?_eq_getElem hi)
      simp; omega
    rw [this]

theorem contains_ok (l : List Int) : Con1 Tryz.prog gl 197 [.sl (ints l), fnv 196] [] (dbool (l.any (fun n => decide (n < 0)))) [] := by
  refine t_in Tryz.func197 ?_
  intro X hP hgl hf hfn hn hR hids hfit
  refine t_rg0 ?_
  refine t_a ?_
  first | refine W_reg [] fun K hK => ?_ | refine W_regd (by rw [hP]; exact mixed) [] fun K hK => ?_
  refine t_s0 ?_
  refine t_c trivial (indexNeg_ok l) ?_
  refine t_e ?_
  clear hK K
  refine t_r ?_
  simp [go_sem, hP, hgl, hn] <;> (try omega)
  unfold idxNeg
  cases h : l.findIdx? (fun n => decide (n < 0)) with
  | none =>
    rw [List.findIdx?_eq_none_iff] at h
    have : l.any (fun n => decide (n < 0)) = false := by
      rw [List.any_eq_false]
      intro x hx
      simp [h x hx]
    simp only [this]
    decide
  | some k =>
    obtain ⟨h1, h2, -⟩ := List.findIdx?_eq_some_iff_getElem.1 h
    have : l.any (fun n => decide (n < 0)) = true := by
      rw [List.any_eq_true]
      exact ⟨_, List.getElem_mem h1, h2⟩
    simp [this]

end Go.Proofs.YtcldnfbcbkaanaaGreatDoor.Lift

namespace Go.Proofs.YtcldnfbcbkaanaaGreatDoor.Lift
set_option linter.unusedSimpArgs false
set_option linter.unusedVariables false
set_option linter.unnecessarySimpa false
open Go
variable {gl : Globs}

def Val.nodesN : Val → Int × Bool
  | .mk k n l a => nodesL a (1, Val.okB (.mk k n l a))
where
  nodesL : List Val → Int × Bool → Int × Bool
    | [], p => p
    | a :: r, p => if p.2 then nodesL r (p.1 + (Val.nodesN a).1, (Val.nodesN a).2) else p
theorem Val.nodesN_eq (v : Val) : v.nodesN = nodesN.nodesL v.args (1, v.okB) := by cases v; simp [nodesN, args]
theorem Val.nodesL_no (l : List Val) (n : Int) : nodesN.nodesL l (n, false) = (n, false) := by cases l <;> simp [nodesN.nodesL]
theorem Val.nodesL_append (l m : List Val) (p : Int × Bool) : nodesN.nodesL (l ++ m) p = nodesN.nodesL m (nodesN.nodesL l p) := by
  induction l generalizing p with
  | nil => simp [nodesN.nodesL]
  | cons a r ih =>
    obtain ⟨n, ok⟩ := p
    cases ok with
    | true => simp [nodesN.nodesL, ih]
    | false => simp [nodesL_no]

/-- the number of nodes of a value -/
def Val.count : Val → Nat
  | .mk _ _ _ a => 1 + counts a
where
  counts : List Val → Nat
    | [] => 0
    | a :: r => a.count + counts r
theorem Val.count_eq (t : Val) : t.count = 1 + Val.count.counts t.args := by cases t; simp [count, args]
theorem Val.counts_append (l m : List Val) : Val.count.counts (l ++ m) = Val.count.counts l + Val.count.counts m := by
  induction l with
  | nil => simp [Val.count.counts]
  | cons a r ih => simp [Val.count.counts, ih]; omega

theorem Val.nodesL_le {v : Val} (ih : ∀ a ∈ v.args, 0 ≤ a.nodesN.1 ∧ a.nodesN.1 ≤ a.count) (l : List Val) : (∀ a ∈ l, a ∈ v.args) → ∀ (n : Int) (ok : Bool), n ≤ (nodesN.nodesL l (n, ok)).1 ∧ (nodesN.nodesL l (n, ok)).1 ≤ n + Val.count.counts l := by
  induction l with
  | nil => intro _ n ok; simp [nodesN.nodesL, Val.count.counts]
  | cons a r ihr =>
    intro h n ok
    have h1 := ih a (h a (by simp))
    cases ok with
    | false => simp [nodesL_no, Val.count.counts]; omega
    | true =>
      have h2 := ihr (fun b hb => h b (List.mem_cons_of_mem _ hb)) (n + a.nodesN.1) a.nodesN.2
      simp only [nodesN.nodesL, if_true, Val.count.counts]
      omega
theorem Val.nodes_le (v : Val) : 0 ≤ v.nodesN.1 ∧ v.nodesN.1 ≤ v.count := by
  induction v using Val.ind with
  | h v ih =>
  have := Val.nodesL_le ih v.args (fun _ h => h) 1 v.okB
  rw [nodesN_eq, count_eq]
  omega

theorem nodes_ok (v : Val) (hc : v.count ≤ 2147483648) : Con1 Tryz.prog gl 147 [v.dv] [] (.tup [dint v.nodesN.1, dbool v.nodesN.2]) [] := by
  induction v using Val.ind with
  | h v ih =>
  refine t_in Tryz.func147 ?_
  intro X hP hgl hf hfn hn hR hids hfit
  have hl1 := Val.fit_args (hfit v.dv (by simp))
  have hl2 := Val.fit_list (hfit v.dv (by simp))
  rw [Val.count_eq] at hc
  refine t_rg0 ?_
  refine t_rg0 ?_
  refine t_rg0 ?_
  refine t_rg0 ?_
  repeat (first | refine W_seq ?_ | refine W_skip ?_ | refine W_inBlock ?_ | refine W_label ?_)
  refine W_cut [(.slot 5, .one (.v (dbool v.okB))), (.loc 1, .row ([.v (dint v.kind), .v (dint v.num), .v (.sl (ints v.list)), .v (.sl (v.args.map Val.cells))])), (.slot 1, .one (.loc 1 0))] ?_ ?_
  · intro hrest
    by_cases h1 : v.kind = 1
    · refine t_rg @h1 ?_
      refine t_yes ?_
      by_cases q1 : 0 ≤ v.num
      · by_cases q2 : v.list.length = 0
        · refine t_rg (j2 @h1 (j2 @q1 @q2)) ?_
          repeat (first | refine W_inBlock ?_ | refine W_skip ?_ | refine W_label ?_ | refine W_exit rfl ?_)
          refine W_sub [] (by simp [go_sem]) (by simp [go_sem, Val.okB, h1, q1, q2] <;> omega) (by simp [go_sem]) hrest
        · refine t_rg (j2 @h1 (j2 @q1 @q2)) ?_
          repeat (first | refine W_inBlock ?_ | refine W_skip ?_ | refine W_label ?_ | refine W_exit rfl ?_)
          refine W_sub [] (by simp [go_sem]) (by simp [go_sem, Val.okB, h1, q1, q2] <;> omega) (by simp [go_sem]) hrest
      · refine t_rg (j2 @h1 @q1) ?_
        repeat (first | refine W_inBlock ?_ | refine W_skip ?_ | refine W_label ?_ | refine W_exit rfl ?_)
        refine W_sub [] (by simp [go_sem]) (by simp [go_sem, Val.okB, h1, q1] <;> omega) (by simp [go_sem]) hrest
    by_cases h2 : v.kind = 2
    · refine t_rg @h2 ?_
      refine t_no ?_
      refine t_rg @h2 ?_
      refine t_yes ?_
      by_cases q1 : v.num = 0
      · refine t_a ?_
        first | refine W_reg [] fun K hK => ?_ | refine W_regd (by rw [hP]; exact mixed) [] fun K hK => ?_
        refine t_s (j2 @h2 @q1) ?_
        refine t_c trivial (contains_ok v.list) ?_
        by_cases q2 : v.list.any (fun n => decide (n < 0)) = true
        · simp [go_sem, hP, hn, q2]
          refine t_e ?_
          clear hK K
          repeat (first | refine W_inBlock ?_ | refine W_skip ?_ | refine W_label ?_ | refine W_exit rfl ?_)
          refine W_sub [] (by simp [go_sem]) (by simp [go_sem, Val.okB, h2, q1, q2] <;> omega) (by simp [go_sem]) hrest
        · simp only [Bool.not_eq_true] at q2
          simp [go_sem, hP, hn, q2]
          refine t_e ?_
          clear hK K
          repeat (first | refine W_inBlock ?_ | refine W_skip ?_ | refine W_label ?_ | refine W_exit rfl ?_)
          refine W_sub [] (by simp [go_sem]) (by simp [go_sem, Val.okB, h2, q1, q2] <;> omega) (by simp [go_sem]) hrest
      · refine t_rg (j2 @h2 @q1) ?_
        repeat (first | refine W_inBlock ?_ | refine W_skip ?_ | refine W_label ?_ | refine W_exit rfl ?_)
        refine W_sub [] (by simp [go_sem]) (by simp [go_sem, Val.okB, h2, q1] <;> omega) (by simp [go_sem]) hrest
    by_cases h3 : v.kind = 3
    · refine t_rg @h3 ?_
      refine t_no ?_
      refine t_rg @h3 ?_
      refine t_no ?_
      refine t_rg @h3 ?_
      refine t_yes ?_
      by_cases q1 : v.num = 0
      · by_cases q2 : v.list.length = 0
        · refine t_rg (j2 @h3 (j2 @q1 @q2)) ?_
          repeat (first | refine W_inBlock ?_ | refine W_skip ?_ | refine W_label ?_ | refine W_exit rfl ?_)
          refine W_sub [] (by simp [go_sem]) (by simp [go_sem, Val.okB, h3, q1, q2] <;> omega) (by simp [go_sem]) hrest
        · refine t_rg (j2 @h3 (j2 @q1 @q2)) ?_
          repeat (first | refine W_inBlock ?_ | refine W_skip ?_ | refine W_label ?_ | refine W_exit rfl ?_)
          refine W_sub [] (by simp [go_sem]) (by simp [go_sem, Val.okB, h3, q1, q2] <;> omega) (by simp [go_sem]) hrest
      · refine t_rg (j2 @h3 @q1) ?_
        repeat (first | refine W_inBlock ?_ | refine W_skip ?_ | refine W_label ?_ | refine W_exit rfl ?_)
        refine W_sub [] (by simp [go_sem]) (by simp [go_sem, Val.okB, h3, q1] <;> omega) (by simp [go_sem]) hrest
    by_cases h4 : v.kind = 4
    · refine t_rg @h4 ?_
      refine t_no ?_
      refine t_rg @h4 ?_
      refine t_no ?_
      refine t_rg @h4 ?_
      refine t_no ?_
      refine t_rg @h4 ?_
      refine t_yes ?_
      by_cases q1 : v.num = 0
      · by_cases q2 : v.list.length = 0
        · refine t_rg (j2 @h4 (j2 @q1 @q2)) ?_
          repeat (first | refine W_inBlock ?_ | refine W_skip ?_ | refine W_label ?_ | refine W_exit rfl ?_)
          refine W_sub [] (by simp [go_sem]) (by simp [go_sem, Val.okB, h4, q1, q2] <;> omega) (by simp [go_sem]) hrest
        · refine t_rg (j2 @h4 (j2 @q1 @q2)) ?_
          repeat (first | refine W_inBlock ?_ | refine W_skip ?_ | refine W_label ?_ | refine W_exit rfl ?_)
          refine W_sub [] (by simp [go_sem]) (by simp [go_sem, Val.okB, h4, q1, q2] <;> omega) (by simp [go_sem]) hrest
      · refine t_rg (j2 @h4 @q1) ?_
        repeat (first | refine W_inBlock ?_ | refine W_skip ?_ | refine W_label ?_ | refine W_exit rfl ?_)
        refine W_sub [] (by simp [go_sem]) (by simp [go_sem, Val.okB, h4, q1] <;> omega) (by simp [go_sem]) hrest
    refine t_rg @h1 ?_
    refine t_no ?_
    refine t_rg @h2 ?_
    refine t_no ?_
    refine t_rg @h3 ?_
    refine t_no ?_
    refine t_rg @h4 ?_
    refine t_no ?_
    repeat (first | refine W_inBlock ?_ | refine W_skip ?_ | refine W_label ?_ | refine W_exit rfl ?_)
    refine W_sub [] (by simp [go_sem]) (by simp [go_sem, Val.okB, h1, h2, h3, h4] <;> omega) (by simp [go_sem]) hrest
  · refine t_rg0 ?_
    refine t_rg0 ?_
    refine t_a ?_
    refine W_sub [] (by simp [go_sem]) (by simp [go_sem, Val.nodesN.nodesL] <;> omega) (by simp [go_sem]) (W_list (v.args) (fun done rest => [(.slot 84, .one (.v (dint done.length))), (.slot 83, .one (.v (dint v.args.length))), (.slot 82, .one (.v (.sl (v.args.map Val.cells)))), (.slot 6, .one (.v (dint (Val.nodesN.nodesL done (1, v.okB)).1))), (.slot 5, .one (.v (dbool (Val.nodesN.nodesL done (1, v.okB)).2)))]) ?_ ?_)
    · intro done x rest hL hg hnext
      have hlt : done.length < v.args.length := by rw [hL]; simp
      have hcx : Val.count.counts v.args = Val.count.counts done + (x.count + Val.count.counts rest) := by rw [hL, Val.counts_append]; rfl
      have hb := Val.nodesL_le (v := v) (fun a _ => Val.nodes_le a) done (fun a ha => by rw [hL]; simp [ha]) 1 v.okB
      have hx := Val.nodes_le x
      obtain ⟨n, ok, hp⟩ : ∃ n ok, Val.nodesN.nodesL done (1, v.okB) = (n, ok) := ⟨_, _, rfl⟩
      rw [hp] at hb
      simp only [Val.nodesL_append, hp] at hnext ⊢
      refine t_rg0 ?_
      refine t_yes ?_
      refine t_rg @hg ?_
      cases ok with
      | false =>
        refine t_rg0 ?_
        refine t_yes ?_
        refine t_rg0 ?_
        refine t_r ?_
        simp [go_sem, hP, hgl, hn, Val.nodesN_eq, hL, Val.nodesL_append, hp, Val.nodesL_no] <;> (try omega)
      | true =>
        refine t_rg0 ?_
        refine t_no ?_
        refine t_rg0 ?_
        refine t_a ?_
        first | refine W_reg [] fun K hK => ?_ | refine W_regd (by rw [hP]; exact mixed) [] fun K hK => ?_
        refine t_s0 ?_
        refine t_c trivial (ih x (List.mem_of_getElem? hg) (by omega)) ?_
        refine t_e ?_
        clear hK K
        refine t_rg0 ?_
        refine t_rg0 ?_
        repeat (first | refine W_inBlock ?_ | refine W_skip ?_ | refine W_label ?_ | refine W_exit rfl ?_)
        refine W_sub [] (by simp [go_sem]) (by simp [go_sem, Val.nodesN.nodesL] <;> omega) (by simp [go_sem]) hnext
    · refine t_rg0 ?_
      refine t_no ?_
      refine t_rg0 ?_
      refine t_r ?_
      simp [go_sem, hP, hgl, hn, Val.nodesN_eq] <;> (try omega)

theorem check_ok (v : Val) (hc : v.count ≤ 2147483648) : Con1 Tryz.prog gl 78 [v.dv] [] (dint (if v.nodesN.2 = true then if v.nodesN.1 > 64 then 4 else 0 else 2)) [] := by
  refine t_in Tryz.func78 ?_
  intro X hP hgl hf hfn hn hR hids hfit
  refine t_rg0 ?_
  refine t_a ?_
  first | refine W_reg [] fun K hK => ?_ | refine W_regd (by rw [hP]; exact mixed) [] fun K hK => ?_
  refine t_s0 ?_
  refine t_c trivial (nodes_ok v hc) ?_
  refine t_e ?_
  clear hK K
  obtain ⟨n, ok, hp⟩ : ∃ n ok, v.nodesN = (n, ok) := ⟨_, _, rfl⟩
  simp only [hp]
  cases ok with
  | false =>
    refine t_rg0 ?_
    refine t_yes ?_
    refine t_rg0 ?_
    refine t_r ?_
    simp [go_sem, hP, hgl, hn, hp] <;> (try omega)
  | true =>
    refine t_rg0 ?_
    refine t_no ?_
    by_cases h : 64 < n
    · refine t_rg @h ?_
      refine t_yes ?_
      refine t_rg0 ?_
      refine t_r ?_
      simp [go_sem, hP, hgl, hn, hp, h] <;> (try omega)
    · refine t_rg @h ?_
      refine t_no ?_
      refine t_rg0 ?_
      refine t_r ?_
      simp [go_sem, hP, hgl, hn, hp, h] <;> (try omega)
end Go.Proofs.YtcldnfbcbkaanaaGreatDoor.Lift

namespace Go.Proofs.YtcldnfbcbkaanaaGreatDoor.Lift
set_option linter.unusedSimpArgs false
set_option linter.unusedVariables false
set_option linter.unnecessarySimpa false
open Go
variable {gl : Globs}

theorem checkterm_ok (har : globOf gl 0 = some arEls) (t : Tm) (ht : t.tys) (hc : t.count ≤ 2147483648) : Con1 Tryz.prog gl 148 [t.dv] [] (.tup [dint (if t.checkN = 0 then t.count else 0 : Nat), dint t.checkN]) [] := by
  refine t_in Tryz.func148 ?_
  intro X hP hgl hf hfn hn hR hids hfit
  refine t_g0 ?_
  by_cases h : t.shape = true
  · refine t_a ?_
    first | refine W_reg [] fun K hK => ?_ | refine W_regd (by rw [hP]; exact mixed) [] fun K hK => ?_
    simp [go_sem, hP, hgl, hn, Tm.nodesR, h]
    repeat (refine ⟨by omega, ?_⟩)
    first | refine vcK_call hP hgl (termnodes_ok har t ht hc) (by simp [go_sem, hP, hgl, hn, Tm.nodesR, h]) rfl (by simp [go_sem]) (by simp) (by rw [hn]; exact Nat.le_of_ble_eq_true rfl) ?_ | refine vcdC_call (fun _ _ => vcd_sound) hP hgl (termnodes_ok har t ht hc) (by simp [go_sem, hP, hgl, hn, Tm.nodesR, h]) rfl (by simp [go_sem]) (by simp) (by rw [hn]; exact Nat.le_of_ble_eq_true rfl) ?_ | refine vcK_callG hP hgl (termnodes_ok har t ht hc) (by simp [go_sem, hP, hgl, hn, Tm.nodesR, h]) rfl (by simp [go_sem]) (by simp) (by rw [hn]; exact Nat.le_of_ble_eq_true rfl) (by simp [go_sem]; rfl) (by rw [hn]; exact Nat.le_of_ble_eq_true rfl) (by simp [go_sem]) ?_ | refine vcdC_callG (fun _ _ => vcd_sound) hP hgl (termnodes_ok har t ht hc) (by simp [go_sem, hP, hgl, hn, Tm.nodesR, h]) rfl (by simp [go_sem]) (by simp) (by rw [hn]; exact Nat.le_of_ble_eq_true rfl) (by simp [go_sem]; rfl) (by rw [hn]; exact Nat.le_of_ble_eq_true rfl) (by simp [go_sem]) ?_
    simp [go_sem, hP, hgl, hn, Tm.nodesR, h]
    refine t_e ?_
    clear hK K
    by_cases h2 : 4096 < t.count
    · refine t_g (j2 @h @h2) ?_
      refine t_r ?_
      simp [go_sem, hP, hgl, hn, Tm.checkN, h, h2] <;> (try omega)
    · refine t_g (j2 @h @h2) ?_
      refine t_r ?_
      simp [go_sem, hP, hgl, hn, Tm.checkN, h, h2] <;> (try omega)
  · refine t_a ?_
    first | refine W_reg [] fun K hK => ?_ | refine W_regd (by rw [hP]; exact mixed) [] fun K hK => ?_
    simp [go_sem, hP, hgl, hn, Tm.nodesR, h]
    repeat (refine ⟨by omega, ?_⟩)
    first | refine vcK_call hP hgl (termnodes_ok har t ht hc) (by simp [go_sem, hP, hgl, hn, Tm.nodesR, h]) rfl (by simp [go_sem]) (by simp) (by rw [hn]; exact Nat.le_of_ble_eq_true rfl) ?_ | refine vcdC_call (fun _ _ => vcd_sound) hP hgl (termnodes_ok har t ht hc) (by simp [go_sem, hP, hgl, hn, Tm.nodesR, h]) rfl (by simp [go_sem]) (by simp) (by rw [hn]; exact Nat.le_of_ble_eq_true rfl) ?_ | refine vcK_callG hP hgl (termnodes_ok har t ht hc) (by simp [go_sem, hP, hgl, hn, Tm.nodesR, h]) rfl (by simp [go_sem]) (by simp) (by rw [hn]; exact Nat.le_of_ble_eq_true rfl) (by simp [go_sem]; rfl) (by rw [hn]; exact Nat.le_of_ble_eq_true rfl) (by simp [go_sem]) ?_ | refine vcdC_callG (fun _ _ => vcd_sound) hP hgl (termnodes_ok har t ht hc) (by simp [go_sem, hP, hgl, hn, Tm.nodesR, h]) rfl (by simp [go_sem]) (by simp) (by rw [hn]; exact Nat.le_of_ble_eq_true rfl) (by simp [go_sem]; rfl) (by rw [hn]; exact Nat.le_of_ble_eq_true rfl) (by simp [go_sem]) ?_
    simp [go_sem, hP, hgl, hn, Tm.nodesR, h]
    refine t_e ?_
    clear hK K
    refine t_g @h ?_
    refine t_r ?_
    simp [go_sem, hP, hgl, hn, Tm.checkN, h] <;> (try omega)

theorem termscheck_ok (har : globOf gl 0 = some arEls) (t : Tm) (ht : t.tys) (hc : t.count ≤ 2147483648) : Con1 Tryz.prog gl 83 [t.dv] [] (dint t.checkN) [] := by
  refine t_in Tryz.func83 ?_
  intro X hP hgl hf hfn hn hR hids hfit
  refine t_g0 ?_
  refine t_c1 trivial (checkterm_ok har t ht hc) ?_
  refine t_g0 ?_
  refine t_r ?_
  simp [go_sem, hP, hgl, hn] <;> (try omega)

def zeroV : Val := Val.mk 0 0 [] []

end Go.Proofs.YtcldnfbcbkaanaaGreatDoor.Lift

namespace Go.Proofs.YtcldnfbcbkaanaaGreatDoor.Lift
set_option linter.unusedSimpArgs false
set_option linter.unusedVariables false
set_option linter.unnecessarySimpa false
open Go
variable {gl : Globs}

theorem list_ok : Con1 Tryz.prog gl 190 [] [] (Ty.mk 2 []).dv [] := by
  refine t_in Tryz.func190 ?_
  intro X hP hgl hf hfn hn hR hids hfit
  refine t_g0 ?_
  refine t_r ?_
  simp [go_sem, hP, hgl, hn] <;> (try omega)
  all_goals exact t_f
theorem nat_ok : Con1 Tryz.prog gl 191 [] [] (Ty.mk 1 []).dv [] := by
  refine t_in Tryz.func191 ?_
  intro X hP hgl hf hfn hn hR hids hfit
  refine t_g0 ?_
  refine t_r ?_
  simp [go_sem, hP, hgl, hn] <;> (try omega)
  all_goals exact t_f

/-- the type of a valid value -/
def Val.tyN : Val → Ty
  | .mk k _ _ a => if k = 2 then Ty.mk 2 [] else if k = 4 then Ty.mk 5 [] else if k = 3 then Ty.mk 3 (tys a) else Ty.mk 1 []
where
  tys : List Val → List Ty
    | [] => []
    | a :: r => a.tyN :: tys r
theorem Val.tys_map (l : List Val) : tyN.tys l = l.map Val.tyN := by
  induction l with
  | nil => rfl
  | cons a r ih => simp [tyN.tys, ih]
theorem Val.tyN_eq (v : Val) : v.tyN = if v.kind = 2 then Ty.mk 2 [] else if v.kind = 4 then Ty.mk 5 [] else if v.kind = 3 then Ty.mk 3 (v.args.map Val.tyN) else Ty.mk 1 [] := by
  cases v; rw [tyN, tys_map]; rfl

end Go.Proofs.YtcldnfbcbkaanaaGreatDoor.Lift

namespace Go.Proofs.YtcldnfbcbkaanaaGreatDoor.Lift
set_option linter.unusedSimpArgs false
set_option linter.unusedVariables false
set_option linter.unnecessarySimpa false
open Go
variable {gl : Globs}

/-- lengths of a list's numbers, until they are too many -/
def lenL : List Int → Int → Int × Bool
  | [], n => (n, false)
  | x :: r, n => if 4096 < n + (1 + sizeI x) then (n + (1 + sizeI x), true) else lenL r (n + (1 + sizeI x))

/-- no negative numbers -/
def Val.pos (v : Val) : Prop := 0 ≤ v.num ∧ ∀ n ∈ v.list, (0 : Int) ≤ n
def Val.allPos : Val → Prop
  | .mk k n l a => Val.pos (.mk k n l a) ∧ poss a
where
  poss : List Val → Prop
    | [] => True
    | a :: r => a.allPos ∧ poss r
theorem Val.poss_iff (l : List Val) : allPos.poss l ↔ ∀ a ∈ l, a.allPos := by
  induction l with
  | nil => simp [allPos.poss]
  | cons a r ih => simp [allPos.poss, ih]
theorem Val.allPos_eq (v : Val) : v.allPos ↔ v.pos ∧ ∀ a ∈ v.args, a.allPos := by
  cases v; simp only [allPos, poss_iff, args]

/-- the length ahead of the parts -/
def Val.head (v : Val) : Int := if v.kind = 1 then sizeI v.num else if v.kind = 2 then (lenL v.list 1).1 else 1
end Go.Proofs.YtcldnfbcbkaanaaGreatDoor.Lift

namespace Go.Proofs.YtcldnfbcbkaanaaGreatDoor.Lift
set_option linter.unusedSimpArgs false
set_option linter.unusedVariables false
set_option linter.unnecessarySimpa false
open Go
variable {gl : Globs}

theorem backward_ok (l : List Int) : Con Tryz.prog gl 140 [.sl (ints l)] [] fun r φ => ∃ b, r = .prim (.func (.func 192) #[] #[.pointer (some ⟨b, 0, none⟩)]) ∧ φ = [(b, [.sl (ints l)])] := by
  refine t_in Tryz.func140 ?_
  intro X hP hgl hf hfn hn hR hids hfit
  refine t_rg0 ?_
  refine W_expose 1 (by simp [go_sem]; rfl) ?_
  intro b hb
  simp [go_sem]
  refine t_rg0 ?_
  refine t_a ?_
  refine W_retR hP hf hfn (.prim (.func (.func 192) #[] #[.pointer (some ⟨b, 0, none⟩)])) [(b, [.sl (ints l)])] (by simp [go_sem, hP, hgl, hn]) (by simp [go_sem]) (by simp) (by rw [hR.1]; exact ⟨b, rfl, rfl⟩) hR.2

/-- what is asked of yield: the numbers from the last one on -/
def BackY (P : Program) (gl : Globs) (l : List Int) (φ : Nat → Objs) (Stop : Objs → Loop → Prop) (lp : Nat) (r : Loop) (D0 : Nat → Nat → Prop) (w0 : World) : Prop :=
  ∀ (i : Nat) (x : Int), l[i]? = some x → YC P gl D0 w0 lp r [dint i, dint x] (φ (i + 1)) fun b φ' r' => if b = true then φ' = φ i ∧ r' = r else Stop φ' r'

theorem backIt_ok (l : List Int) (hlen : l.length ≤ 2147483648) (b0 : Nat) (φ : Nat → Objs) (hφ : ∀ i, (φ i).map (·.1) = (φ 0).map (·.1)) (hnd : ((φ 0).map (·.1)).Nodup) (hb0 : b0 ∉ (φ 0).map (·.1)) {Stop : Objs → Loop → Prop} (hStop : ∀ ψ r', Stop ψ r' → ψ.map (·.1) = (φ 0).map (·.1)) (lp : Nat) (r : Loop) (hps : r.params.size = 2) :
    ItC Tryz.prog gl 192 [.prim (.func (.yield lp) #[] #[]), ptr b0] ((b0, [.sl (ints l)]) :: φ l.length) lp r (BackY Tryz.prog gl l φ Stop lp r) (fun φ' r' => (φ' = (b0, [.sl (ints l)]) :: φ 0 ∧ r' = r) ∨ ∃ ψ, φ' = (b0, [.sl (ints l)]) :: ψ ∧ Stop ψ r') := by
  refine ItC_intro Tryz.func192 rfl (by kernel_rfl) (Nat.le_of_ble_eq_true rfl) ?_
  intro X hP hgl hf hfn hn hmd hids hfit hlp hY
  simp only [List.map_cons, List.mem_cons, not_or, hφ] at hlp
  obtain ⟨hlb, hlφ⟩ := hlp
  have hin : ∀ (i : Nat) (A : St), (∀ m v, (m, v) ∈ A → ∀ b ∈ (φ 0).map (·.1), m ≠ .heap b) → objsIn (get (A ++ heapSt (φ i))) (φ i) := fun i A h => objsIn_tail (by rw [hφ]; exact hnd) (by rw [hφ]; exact h)
  simp only [entryL, entry, argSt, heapSt, List.map_cons, List.map_nil, List.cons_append, List.nil_append]
  refine t_rg @hlb ?_
  refine t_a ?_
  refine W_tail (A' := [(.slot 3, .one (.v (dint ((l.length : Int) - 1 - (0 : Nat))))), (.slot 0, .one (.v (.prim (.func (.yield lp) #[] #[])))), (.slot 1, .one (.v (ptr b0))), (.heap lp, .ob r), (.heap b0, .row [.v (.sl (ints l))])]) (A := [_, _, _, _, _, _, _, _]) ?_ ?_ ?_
  · intro m v h
    simp only [List.mem_cons, List.not_mem_nil, or_false, Prod.mk.injEq] at h
    rcases h with ⟨rfl, rfl⟩ | ⟨rfl, rfl⟩ | ⟨rfl, rfl⟩ | ⟨rfl, rfl⟩ | ⟨rfl, rfl⟩ <;> simp [go_sem, hlb]
  · simp only [List.cons_append, List.nil_append]
    refine W_upto (X := X) l.length (fun _ => True) (fun j => (.slot 3, .one (.v (dint ((l.length : Int) - 1 - (j : Nat))))) :: (.slot 0, .one (.v (.prim (.func (.yield lp) #[] #[])))) :: (.slot 1, .one (.v (ptr b0))) :: (.heap lp, .ob r) :: (.heap b0, .row [.v (.sl (ints l))]) :: heapSt (φ (l.length - j))) trivial ?_ ?_
    · intro j hj _ hnext
      obtain ⟨i, hi⟩ : ∃ i : Nat, l.length = j + 1 + i := ⟨l.length - (j + 1), by omega⟩
      have hi1 : (l.length : Int) - 1 - (j : Nat) = (i : Nat) := by omega
      have hi2 : l.length - j = i + 1 := by omega
      have hi3 : l.length - (j + 1) = i := by omega
      have hx : l[i]? = some l[i] := List.getElem?_eq_getElem (by omega)
      rw [hi1, hi2]
      rw [hi3] at hnext
      generalize l[i] = x at hx
      have hgi := ints_get hx
      refine t_rg0 ?_
      refine t_yes ?_
      refine t_a ?_
      first | refine W_reg [] fun K hK => ?_ | refine W_regd (by rw [hP]; exact mixed) [] fun K hK => ?_
      refine t_s (j2 @hlb @hgi) ?_
      repeat (refine ⟨by omega, ?_⟩)
      refine vcK_yieldA (by simp [go_sem]) hP hgl (hY i x hx) hps (by simp [go_sem]) rfl ?_ (by rw [hφ]; exact hnd) (by simp [go_sem]) (by rw [hn]; exact Nat.le_of_ble_eq_true rfl) [(.slot 3, .one (.v (dint (i : Nat)))), (.slot 0, .one (.v (.prim (.func (.yield lp) #[] #[])))), (.slot 1, .one (.v (ptr b0))), (.heap b0, .row [.v (.sl (ints l))])] ?_ ?_ ?_
      · repeat (first | refine objsIn_slot ?_ | refine objsIn_heap (by rw [hφ]; assumption) ?_)
        exact objsIn_self (by rw [hφ]; exact hnd)
      · intro m v h
        simp only [List.mem_cons, List.not_mem_nil, or_false, Prod.mk.injEq] at h
        rw [hφ]
        rcases h with ⟨rfl, rfl⟩ | ⟨rfl, rfl⟩ | ⟨rfl, rfl⟩ | ⟨rfl, rfl⟩
        · simp [go_sem]
        · simp [go_sem]
        · simp [go_sem]
        · refine ⟨by simp [go_sem, hlb], by simp, by simp; exact fun e => hlb e.symm, fun b hb e => ?_⟩
          cases e; exact hb0 hb
      · intro b φ' r' h
        have : φ'.map (·.1) = (φ 0).map (·.1) := by
          split at h
          · rw [h.1, hφ]
          · exact hStop _ _ h
        rw [this]
        exact ⟨hnd, hlφ⟩
      · intro b φ' r' h _
        simp only [List.cons_append, List.nil_append]
        cases b with
        | true =>
          simp only [if_true] at h
          obtain ⟨rfl, rfl⟩ := h
          simp [go_sem, hP, hgl, hn]
          refine t_e ?_
          clear hK K
          refine t_no ?_
          refine t_rg0 ?_
          refine t_a ?_
          refine W_tail (A' := [(.slot 3, .one (.v (dint ((l.length : Int) - 1 - (j + 1 : Nat))))), (.slot 0, .one (.v (.prim (.func (.yield lp) #[] #[])))), (.slot 1, .one (.v (ptr b0))), (.heap lp, .ob r'), (.heap b0, .row [.v (.sl (ints l))])]) (A := [_, _, _, _, _, _, _, _, _]) ?_ (hnext trivial) ?_
          · intro m v h
            simp only [List.mem_cons, List.not_mem_nil, or_false, Prod.mk.injEq] at h
            rcases h with ⟨rfl, rfl⟩ | ⟨rfl, rfl⟩ | ⟨rfl, rfl⟩ | ⟨rfl, rfl⟩ | ⟨rfl, rfl⟩ <;> simp [go_sem, hlb]
            omega
          · intro m v h
            simp only [List.mem_cons, List.not_mem_nil, or_false, Prod.mk.injEq] at h
            rw [hφ]
            intro b hb
            rcases h with ⟨rfl, rfl⟩ | ⟨rfl, rfl⟩ | ⟨rfl, rfl⟩ | ⟨rfl, rfl⟩ | ⟨rfl, rfl⟩ | ⟨rfl, rfl⟩ | ⟨rfl, rfl⟩ | ⟨rfl, rfl⟩ | ⟨rfl, rfl⟩ <;> first | (simp; done) | (intro e; cases e; first | exact hb0 hb | exact hlφ hb)
        | false =>
          simp only [Bool.false_eq_true, if_false] at h
          have hids' := hStop _ _ h
          simp [go_sem, hP, hgl, hn]
          refine t_e ?_
          clear hK K
          refine t_yes ?_
          refine t_a ?_
          refine W_itfin hmd (φ := (b0, [.sl (ints l)]) :: φ') (q := r') (r := .tup []) (by rw [hP, hf, hfn]; exact Tryz.func192) (by rw [hfn]; simp [go_sem]) (objsIn_one ?_ ?_) ?_ ?_ (.inr ⟨φ', rfl, h⟩) outs_ret
          · simp [go_sem, hlb]
          · repeat (first | refine objsIn_slot ?_ | refine objsIn_heap (by rw [hids']; assumption) ?_)
            exact objsIn_self (by rw [hids']; exact hnd)
          · simp only [List.map_cons, List.nodup_cons, hids']; exact ⟨hb0, hnd⟩
          · simp [go_sem, hlb]
    · intro _
      refine t_rg0 ?_
      refine t_no ?_
      refine t_a ?_
      refine W_itfin hmd (φ := (b0, [.sl (ints l)]) :: φ 0) (q := r) (r := .tup []) (by rw [hP, hf, hfn]; exact Tryz.func192) (by rw [hfn]; simp [go_sem]) (objsIn_one ?_ ?_) ?_ ?_ (.inl ⟨rfl, rfl⟩) outs_end
      · simp [go_sem, hlb]
      · repeat (first | refine objsIn_slot ?_ | refine objsIn_heap (by assumption) ?_)
        exact objsIn_self hnd
      · simp only [List.map_cons, List.nodup_cons]; exact ⟨hb0, hnd⟩
      · simp [go_sem, hlb]
  · intro m v h
    simp only [List.mem_cons, List.not_mem_nil, or_false, Prod.mk.injEq] at h
    rw [hφ]
    intro b hb
    rcases h with ⟨rfl, rfl⟩ | ⟨rfl, rfl⟩ | ⟨rfl, rfl⟩ | ⟨rfl, rfl⟩ | ⟨rfl, rfl⟩ | ⟨rfl, rfl⟩ | ⟨rfl, rfl⟩ | ⟨rfl, rfl⟩ <;> first | (simp; done) | (intro e; cases e; first | exact hb0 hb | exact hlφ hb)
end Go.Proofs.YtcldnfbcbkaanaaGreatDoor.Lift

namespace Go.Proofs.YtcldnfbcbkaanaaGreatDoor.Lift
set_option linter.unusedSimpArgs false
set_option linter.unusedVariables false
set_option linter.unnecessarySimpa false
open Go
variable {gl : Globs}

/-- pairs have two parts -/
def Val.two : Val → Prop
  | .mk k _ _ a => (k = 3 → a.length = 2) ∧ twos a
where
  twos : List Val → Prop
    | [] => True
    | a :: r => a.two ∧ twos r
theorem Val.twos_iff (l : List Val) : two.twos l ↔ ∀ a ∈ l, a.two := by
  induction l with
  | nil => simp [two.twos]
  | cons a r ih => simp [two.twos, ih]
theorem Val.two_eq (v : Val) : v.two ↔ (v.kind = 3 → v.args.length = 2) ∧ ∀ a ∈ v.args, a.two := by
  cases v; simp only [two, twos_iff, kind, args]

end Go.Proofs.YtcldnfbcbkaanaaGreatDoor.Lift

namespace Go.Proofs.YtcldnfbcbkaanaaGreatDoor.Lift
set_option linter.unusedSimpArgs false
set_option linter.unusedVariables false
set_option linter.unnecessarySimpa false
open Go
variable {gl : Globs}

theorem Val.nodesL_ok {l : List Val} {n : Int} {ok : Bool} (h : (nodesN.nodesL l (n, ok)).2 = true) : ok = true ∧ ∀ a ∈ l, a.nodesN.2 = true := by
  induction l generalizing n ok with
  | nil => simp [nodesN.nodesL] at h; exact ⟨h, by simp⟩
  | cons a r ih =>
    cases ok with
    | false => rw [nodesL_no] at h; cases h
    | true =>
      simp only [nodesN.nodesL, if_true] at h
      obtain ⟨h1, h2⟩ := ih h
      exact ⟨rfl, by simpa using ⟨h1, h2⟩⟩

/-- a value that has a form has no negative numbers, and pairs of two parts -/
theorem Val.ok_all (v : Val) (h : v.nodesN.2 = true) : v.allPos ∧ v.two := by
  induction v using Val.ind with
  | h v ih =>
  rw [nodesN_eq] at h
  obtain ⟨h1, h2⟩ := nodesL_ok h
  rw [allPos_eq, two_eq]
  have hpos : v.pos ∧ (v.kind = 3 → v.args.length = 2) := by
    unfold okB at h1
    unfold pos
    split at h1
    · rename_i hk
      simp at h1
      simp [hk, h1]
    · split at h1
      · rename_i hk
        simp at h1
        simp [hk]
        obtain ⟨⟨q1, q2⟩, q3⟩ := h1
        rw [q1]
        exact ⟨by omega, fun n hn => by have := q2 n hn; omega⟩
      · split at h1
        · simp at h1; simp [h1]
        · split at h1
          · rename_i hk; simp at h1; simp [h1, hk]
          · cases h1
  exact ⟨⟨hpos.1, fun a ha => (ih a ha (h2 a ha)).1⟩, hpos.2, fun a ha => (ih a ha (h2 a ha)).2⟩

def zeroTm : Tm := Tm.mk 0 0 (Ty.mk 0 []) []

def Val.checkN (v : Val) : Int := if v.nodesN.2 = true then if v.nodesN.1 > 64 then 4 else 0 else 2

end Go.Proofs.YtcldnfbcbkaanaaGreatDoor.Lift

/-
  Plain facts: the types of terms.
-/
namespace Go.Proofs.YtcldnfbcbkaanaaGreatDoor.Lift
set_option linter.unusedSimpArgs false
set_option linter.unusedVariables false
set_option linter.unnecessarySimpa false
open Go

def zeroTy : Ty := Ty.mk 0 []
def Ty.arg (t : Ty) (i : Nat) : Ty := t.args.getD i zeroTy
def Ty.ok (t : Ty) : Prop := t.shape = true ∧ t.count ≤ 64

theorem Ty.checkN_iff (t : Ty) : t.checkN = 0 ↔ t.ok := by
  unfold Ty.checkN Ty.ok
  split
  · split
    · rename_i h; simp; omega
    · rename_i h; simp; constructor <;> first | assumption | omega
  · rename_i h; simp [h]

def okN (t : Ty) : Ty × Int := if t.checkN = 0 then (t, 0) else (zeroTy, 4)

theorem okN_ok (t : Ty) (h : (okN t).2 = 0) : (okN t).1.ok ∧ okN t = (t, 0) := by
  unfold okN at h ⊢
  split
  · rename_i h2; exact ⟨(Ty.checkN_iff t).1 h2, rfl⟩
  · rename_i h2; rw [if_neg h2] at h; cases h

/-- the type of a node, of the types of its parts -/
def ruleN (k : Int) (ty : Ty) (l : List Ty) : Ty × Int :=
  if k = 2 then okN (Ty.mk 4 [ty, l.getD 0 zeroTy])
  else if k = 3 then if (l.getD 0 zeroTy).kind = 4 ∧ ((l.getD 0 zeroTy).arg 0).same (l.getD 1 zeroTy) = true then ((l.getD 0 zeroTy).arg 1, 0) else (zeroTy, 7)
  else if k = 4 then (Ty.mk 1 [], 0)
  else if k = 5 then if (l.getD 0 zeroTy).same (Ty.mk 1 []) = true then (Ty.mk 1 [], 0) else (zeroTy, 7)
  else if k = 6 then if (l.getD 0 zeroTy).same ty = true ∧ (l.getD 1 zeroTy).same (Ty.mk 4 [Ty.mk 1 [], Ty.mk 4 [ty, ty]]) = true ∧ (l.getD 2 zeroTy).same (Ty.mk 1 []) = true then (ty, 0) else (zeroTy, 7)
  else if k = 7 then (Ty.mk 2 [], 0)
  else if k = 8 then if (l.getD 0 zeroTy).same (Ty.mk 1 []) = true ∧ (l.getD 1 zeroTy).same (Ty.mk 2 []) = true then (Ty.mk 2 [], 0) else (zeroTy, 7)
  else if k = 9 then if (l.getD 0 zeroTy).same ty = true ∧ (l.getD 1 zeroTy).same (Ty.mk 4 [Ty.mk 1 [], Ty.mk 4 [Ty.mk 2 [], Ty.mk 4 [ty, ty]]]) = true ∧ (l.getD 2 zeroTy).same (Ty.mk 2 []) = true then (ty, 0) else (zeroTy, 7)
  else if k = 10 then okN (Ty.mk 3 [l.getD 0 zeroTy, l.getD 1 zeroTy])
  else if k = 11 then if (l.getD 0 zeroTy).kind = 3 then ((l.getD 0 zeroTy).arg 0, 0) else (zeroTy, 7)
  else if k = 12 then if (l.getD 0 zeroTy).kind = 3 then ((l.getD 0 zeroTy).arg 1, 0) else (zeroTy, 7)
  else (Ty.mk 5 [], 0)

namespace Tm
set_option linter.unusedSimpArgs false
set_option linter.unusedVariables false
set_option linter.unnecessarySimpa false
def inferN : Tm → List Ty → Ty × Int
  | .mk k i ty a, g =>
    if k = 1 then if (g.length : Int) ≤ i then (zeroTy, 6) else (g.getD (g.length - 1 - i.toNat) zeroTy, 0)
    else if (infers a (if k = 2 then g ++ [ty] else g)).2 = 0 then ruleN k ty (infers a (if k = 2 then g ++ [ty] else g)).1
    else (zeroTy, (infers a (if k = 2 then g ++ [ty] else g)).2)
where
  infers : List Tm → List Ty → List Ty × Int
    | [], _ => ([], 0)
    | a :: r, g => if (a.inferN g).2 = 0 then if (infers r g).2 = 0 then ((a.inferN g).1 :: (infers r g).1, 0) else ([], (infers r g).2) else ([], (a.inferN g).2)

theorem inferN_eq (t : Tm) (g : List Ty) : t.inferN g =
    if t.kind = 1 then if (g.length : Int) ≤ t.index then (zeroTy, 6) else (g.getD (g.length - 1 - t.index.toNat) zeroTy, 0)
    else if (inferN.infers t.args (if t.kind = 2 then g ++ [t.type] else g)).2 = 0 then ruleN t.kind t.type (inferN.infers t.args (if t.kind = 2 then g ++ [t.type] else g)).1
    else (zeroTy, (inferN.infers t.args (if t.kind = 2 then g ++ [t.type] else g)).2) := by
  cases t; rw [inferN]; rfl

theorem infers_all (l : List Tm) (g : List Ty) (h : (inferN.infers l g).2 = 0) :
    (inferN.infers l g).1.length = l.length ∧ ∀ (i : Nat) (x : Tm), l[i]? = some x → (x.inferN g).2 = 0 ∧ (inferN.infers l g).1[i]? = some (x.inferN g).1 := by
  induction l with
  | nil => simp [inferN.infers]
  | cons a r ih =>
    simp only [inferN.infers] at h ⊢
    by_cases ha : (a.inferN g).2 = 0
    · by_cases hr : (inferN.infers r g).2 = 0
      · simp only [ha, hr, if_true]
        obtain ⟨h1, h2⟩ := ih hr
        refine ⟨by simp [h1], ?_⟩
        intro i x hx
        cases i with
        | zero => simp at hx; subst hx; exact ⟨ha, by simp⟩
        | succ i => simp at hx; simpa using h2 i x hx
      · simp [ha, hr] at h
    · simp [ha] at h
end Tm

theorem Ty.ok_arg {t : Ty} (h : t.ok) {a : Ty} (ha : a ∈ t.args) : a.ok := by
  obtain ⟨h1, h2⟩ := h
  rw [Ty.shape_eq, Bool.and_eq_true, Ty.shapes_iff] at h1
  have := Ty.count_mem ha
  rw [Ty.count_eq] at h2
  exact ⟨h1.2 a ha, by omega⟩

theorem Ty.ok_two {t : Ty} (h : t.ok) (hk : t.kind = 3 ∨ t.kind = 4) : t.args.length = 2 := by
  obtain ⟨h1, h2⟩ := h
  rw [Ty.shape_eq, Bool.and_eq_true] at h1
  rcases hk with hk | hk <;> simpa [tyKind, hk] using h1.1

theorem Ty.ok_args {t : Ty} (h : t.ok) (hk : t.kind = 3 ∨ t.kind = 4) : ∃ a b, t.args = [a, b] ∧ a.ok ∧ b.ok ∧ t.arg 0 = a ∧ t.arg 1 = b := by
  have h2 := Ty.ok_two h hk
  match ha : t.args, h2 with
  | [a, b], _ => exact ⟨a, b, rfl, Ty.ok_arg h (by rw [ha]; simp), Ty.ok_arg h (by rw [ha]; simp), by simp [Ty.arg, ha], by simp [Ty.arg, ha]⟩

theorem ok_nat : (Ty.mk 1 []).ok := ⟨rfl, by decide⟩
theorem ok_list : (Ty.mk 2 []).ok := ⟨rfl, by decide⟩
theorem ok_unit : (Ty.mk 5 []).ok := ⟨rfl, by decide⟩

/-- what a valid term says about its node -/
theorem Tm.shape_node {t : Tm} (h : t.shape = true) : ((t.args.length : Int) = arityI t.kind) ∧ 0 ≤ t.index ∧ (t.kind = 1 ∨ t.index = 0) ∧ (if t.kind = 2 ∨ t.kind = 6 ∨ t.kind = 9 then t.type.ok else t.type.zero = true) ∧ ∀ a ∈ t.args, a.shape = true := by
  rw [Tm.shape_eq, Bool.and_eq_true, Tm.shapes_iff] at h
  obtain ⟨h1, h2⟩ := h
  simp only [tmKind, Bool.and_eq_true, Bool.or_eq_true, decide_eq_true_eq, tyOfKind] at h1
  refine ⟨h1.1.1.1, h1.1.1.2, h1.1.2, ?_, h2⟩
  by_cases hk : t.kind = 2 ∨ t.kind = 6 ∨ t.kind = 9
  · rw [if_pos hk] at h1 ⊢; exact (Ty.checkN_iff _).1 (by simpa using h1.2)
  · rw [if_neg hk] at h1 ⊢; exact h1.2

theorem Tm.inferN_ok (t : Tm) (g : List Ty) (ht : t.shape = true) (hg : ∀ x ∈ g, x.ok) (h : (t.inferN g).2 = 0) : (t.inferN g).1.ok := by
  induction t using Tm.ind generalizing g with
  | h t ih =>
  obtain ⟨ha, hi, hv, hty, hs⟩ := Tm.shape_node ht
  rw [inferN_eq] at h ⊢
  by_cases h1 : t.kind = 1
  · rw [if_pos h1] at h ⊢
    by_cases h2 : (g.length : Int) ≤ t.index
    · rw [if_pos h2] at h; cases h
    · rw [if_neg h2]
      have : g.length - 1 - t.index.toNat < g.length := by omega
      simp only [List.getD_eq_getElem?_getD, List.getElem?_eq_getElem this, Option.getD_some]
      exact hg _ (List.getElem_mem _)
  · rw [if_neg h1] at h ⊢
    generalize hge : (if t.kind = 2 then g ++ [t.type] else g) = g' at h ⊢
    have hg' : ∀ x ∈ g', x.ok := by
      subst hge
      split
      · rename_i h2
        intro x hx
        rcases List.mem_append.1 hx with hx | hx
        · exact hg x hx
        · rw [List.mem_singleton.1 hx]; rwa [if_pos (.inl h2)] at hty
      · exact hg
    by_cases h2 : (inferN.infers t.args g').2 = 0
    · rw [if_pos h2] at h ⊢
      obtain ⟨hl, hx⟩ := infers_all _ _ h2
      have key : ∀ i : Nat, i < t.args.length → ((inferN.infers t.args g').1.getD i zeroTy).ok := by
        intro i hi
        obtain ⟨x1, x2⟩ := hx i t.args[i] (List.getElem?_eq_getElem hi)
        rw [List.getD_eq_getElem?_getD, x2, Option.getD_some]
        exact ih _ (List.getElem_mem _) g' (hs _ (List.getElem_mem _)) hg' x1
      generalize (inferN.infers t.args g').1 = l at h key ⊢
      unfold ruleN at h ⊢
      by_cases hk : t.kind = 2
      · rw [if_pos hk] at h ⊢
        exact (okN_ok _ h).1
      rw [if_neg hk] at h ⊢
      by_cases hk : t.kind = 3
      · rw [if_pos hk] at h ⊢
        by_cases hx : (l.getD 0 zeroTy).kind = 4 ∧ ((l.getD 0 zeroTy).arg 0).same (l.getD 1 zeroTy) = true
        · rw [if_pos hx] at h ⊢
          obtain ⟨a, b, e, oa, ob, e0, e1⟩ := Ty.ok_args (key 0 (by rw [hk] at ha; simp [arityI] at ha; omega)) (.inr hx.1)
          rw [e1]; exact ob
        · rw [if_neg hx] at h; cases h
      rw [if_neg hk] at h ⊢
      by_cases hk : t.kind = 4
      · rw [if_pos hk] at h ⊢
        exact ok_nat
      rw [if_neg hk] at h ⊢
      by_cases hk : t.kind = 5
      · rw [if_pos hk] at h ⊢
        by_cases hx : (l.getD 0 zeroTy).same (Ty.mk 1 []) = true
        · rw [if_pos hx] at h ⊢
          exact ok_nat
        · rw [if_neg hx] at h; cases h
      rw [if_neg hk] at h ⊢
      by_cases hk : t.kind = 6
      · rw [if_pos hk] at h ⊢
        by_cases hx : (l.getD 0 zeroTy).same t.type = true ∧ (l.getD 1 zeroTy).same (Ty.mk 4 [Ty.mk 1 [], Ty.mk 4 [t.type, t.type]]) = true ∧ (l.getD 2 zeroTy).same (Ty.mk 1 []) = true
        · rw [if_pos hx] at h ⊢
          rwa [if_pos (.inr (.inl hk))] at hty
        · rw [if_neg hx] at h; cases h
      rw [if_neg hk] at h ⊢
      by_cases hk : t.kind = 7
      · rw [if_pos hk] at h ⊢
        exact ok_list
      rw [if_neg hk] at h ⊢
      by_cases hk : t.kind = 8
      · rw [if_pos hk] at h ⊢
        by_cases hx : (l.getD 0 zeroTy).same (Ty.mk 1 []) = true ∧ (l.getD 1 zeroTy).same (Ty.mk 2 []) = true
        · rw [if_pos hx] at h ⊢
          exact ok_list
        · rw [if_neg hx] at h; cases h
      rw [if_neg hk] at h ⊢
      by_cases hk : t.kind = 9
      · rw [if_pos hk] at h ⊢
        by_cases hx : (l.getD 0 zeroTy).same t.type = true ∧ (l.getD 1 zeroTy).same (Ty.mk 4 [Ty.mk 1 [], Ty.mk 4 [Ty.mk 2 [], Ty.mk 4 [t.type, t.type]]]) = true ∧ (l.getD 2 zeroTy).same (Ty.mk 2 []) = true
        · rw [if_pos hx] at h ⊢
          rwa [if_pos (.inr (.inr hk))] at hty
        · rw [if_neg hx] at h; cases h
      rw [if_neg hk] at h ⊢
      by_cases hk : t.kind = 10
      · rw [if_pos hk] at h ⊢
        exact (okN_ok _ h).1
      rw [if_neg hk] at h ⊢
      by_cases hk : t.kind = 11
      · rw [if_pos hk] at h ⊢
        by_cases hx : (l.getD 0 zeroTy).kind = 3
        · rw [if_pos hx] at h ⊢
          obtain ⟨a, b, e, oa, ob, e0, e1⟩ := Ty.ok_args (key 0 (by rw [hk] at ha; simp [arityI] at ha; omega)) (.inl hx)
          rw [e0]; exact oa
        · rw [if_neg hx] at h; cases h
      rw [if_neg hk] at h ⊢
      by_cases hk : t.kind = 12
      · rw [if_pos hk] at h ⊢
        by_cases hx : (l.getD 0 zeroTy).kind = 3
        · rw [if_pos hx] at h ⊢
          obtain ⟨a, b, e, oa, ob, e0, e1⟩ := Ty.ok_args (key 0 (by rw [hk] at ha; simp [arityI] at ha; omega)) (.inl hx)
          rw [e1]; exact ob
        · rw [if_neg hx] at h; cases h
      rw [if_neg hk] at h ⊢
      exact ok_unit
    · rw [if_neg h2] at h
      exact absurd h h2
end Go.Proofs.YtcldnfbcbkaanaaGreatDoor.Lift

namespace Go.Proofs.YtcldnfbcbkaanaaGreatDoor.Lift
set_option linter.unusedSimpArgs false
set_option linter.unusedVariables false
set_option linter.unnecessarySimpa false
open Go
variable {gl : Globs}

theorem typeof0_ok (v : Val) (ht : v.two) : Con1 Tryz.prog gl 139 [v.dv] [] v.tyN.dv [] := by
  induction v using Val.ind with
  | h v ih =>
  obtain ⟨ht1, ht2⟩ := (Val.two_eq v).1 ht
  refine t_in Tryz.func139 ?_
  intro X hP hgl hf hfn hn hR hids hfit
  by_cases h2 : v.kind = 2
  · have hr : v.tyN = Ty.mk 2 [] := by rw [Val.tyN_eq]; simp [h2]
    refine t_g @h2 ?_
    refine t_c1 @h2 list_ok ?_
    refine t_r ?_
    simp [go_sem, hP, hgl, hn, hr] <;> (try omega)
    all_goals exact t_f
  by_cases h4 : v.kind = 4
  · have hr : v.tyN = Ty.mk 5 [] := by rw [Val.tyN_eq]; simp [h4]
    refine t_g @h4 ?_
    refine t_r ?_
    simp [go_sem, hP, hgl, hn, hr] <;> (try omega)
    all_goals exact t_f
  by_cases h3 : v.kind = 3
  · have h2l := ht1 h3
    match hargs : v.args, h2l with
    | [x, y], _ =>
    have hx : x ∈ v.args := by rw [hargs]; simp
    have hy : y ∈ v.args := by rw [hargs]; simp
    have hr : v.tyN = Ty.mk 3 [x.tyN, y.tyN] := by rw [Val.tyN_eq]; simp [h3, hargs]
    refine t_g @h3 ?_
    refine t_c2 (j2 @h3 @hargs) (ih x hx (ht2 x hx)) (ih y hy (ht2 y hy)) ?_
    refine t_r ?_
    simp [go_sem, hP, hgl, hn, hr] <;> (try omega)
    all_goals exact t_f
  have hr : v.tyN = Ty.mk 1 [] := by rw [Val.tyN_eq]; simp [h2, h3, h4]
  refine t_g (j2 @h2 (j2 @h3 @h4)) ?_
  refine t_c1 @h2 nat_ok ?_
  refine t_r ?_
  simp [go_sem, hP, hgl, hn, hr] <;> (try omega)
  all_goals exact t_f

def Val.typeE (v : Val) : Ty × Int := if v.checkN ≠ 0 then (zeroTy, v.checkN) else (v.tyN, 0)

theorem typeE_ok (v : Val) (hc : v.count ≤ 1048576) : Con1 Tryz.prog gl 71 [v.dv] [] (.tup [v.typeE.1.dv, dint v.typeE.2]) [] := by
  refine t_in Tryz.func71 ?_
  intro X hP hgl hf hfn hn hR hids hfit
  refine t_g0 ?_
  have hck : (if v.nodesN.2 = true then if v.nodesN.1 > 64 then 4 else 0 else 2) = v.checkN := rfl
  have hcon := check_ok (gl := gl) v (by omega)
  rw [hck] at hcon
  refine t_c1 trivial hcon ?_
  by_cases h : v.checkN = 0
  · have hok : v.nodesN.2 = true := by
      unfold Val.checkN at h
      split at h
      · assumption
      · cases h
    obtain ⟨ha, ht⟩ := v.ok_all hok
    refine t_g @h ?_
    refine t_c1 trivial (typeof0_ok v ht) ?_
    refine t_r ?_
    simp [go_sem, hP, hgl, hn, Val.typeE, h] <;> (try omega)
    all_goals exact t_f
  · refine t_g @h ?_
    refine t_r ?_
    simp [go_sem, hP, hgl, hn, Val.typeE, h, zeroTy] <;> (try omega)
    all_goals exact t_f

end Go.Proofs.YtcldnfbcbkaanaaGreatDoor.Lift

namespace Go.Proofs.YtcldnfbcbkaanaaGreatDoor.Lift
set_option linter.unusedSimpArgs false
set_option linter.unusedVariables false
set_option linter.unnecessarySimpa false
open Go
variable {gl : Globs}

theorem ref01_fun_ok (a b : Ty) : Con1 Tryz.prog gl 138 [a.dv, b.dv] [] (Ty.mk 4 [a, b]).dv [] := by
  refine t_in Tryz.func138 ?_
  intro X hP hgl hf hfn hn hR hids hfit
  refine t_g0 ?_
  refine t_c2 trivial (ref01_copy_ok a) (ref01_copy_ok b) ?_
  refine t_r ?_
  simp [go_sem, hP, hgl, hn] <;> (try omega)
  all_goals exact t_f

theorem count_two (k : Int) (a b : Ty) : (Ty.mk k [a, b]).count = 1 + (a.count + (b.count + 0)) := rfl

theorem nat_v : (Ty.mk 1 []).dv = .agg [dint 1, .sl []] := rfl
theorem list_v : (Ty.mk 2 []).dv = .agg [dint 2, .sl []] := rfl

end Go.Proofs.YtcldnfbcbkaanaaGreatDoor.Lift

namespace Go.Proofs.YtcldnfbcbkaanaaGreatDoor.Lift
set_option linter.unusedSimpArgs false
set_option linter.unusedVariables false
set_option linter.unnecessarySimpa false
open Go
variable {gl : Globs}

def Tm.typedE (t : Tm) (g : List Ty) : Ty × Int := if t.checkN = 0 then t.inferN g else (zeroTy, t.checkN)
def Tm.typeE (t : Tm) (g : List Ty) : Ty × Int := if ctxN g = 0 then t.typedE g else (zeroTy, ctxN g)

theorem Tm.checkN_iff (t : Tm) : t.checkN = 0 ↔ t.shape = true ∧ t.count ≤ 4096 := by
  unfold Tm.checkN
  split
  · split
    · rename_i h; simp; omega
    · rename_i h; simp; constructor <;> first | assumption | omega
  · rename_i h; simp [h]

def Tm.leastN : Tm → Int → Bool
  | .mk _ i _ a, m => !decide (m < i) && leasts a m
where
  leasts : List Tm → Int → Bool
    | [], _ => true
    | a :: r, m => a.leastN m && leasts r m
theorem Tm.leastN_eq (t : Tm) (m : Int) : t.leastN m = (!decide (m < t.index) && leastN.leasts t.args m) := by cases t; rfl
theorem Tm.leasts_append (l r : List Tm) (m : Int) : leastN.leasts (l ++ r) m = (leastN.leasts l m && leastN.leasts r m) := by
  induction l with
  | nil => simp [leastN.leasts]
  | cons a r ih => simp [leastN.leasts, ih, Bool.and_assoc]

end Go.Proofs.YtcldnfbcbkaanaaGreatDoor.Lift

namespace Go.Proofs.YtcldnfbcbkaanaaGreatDoor.Lift
set_option linter.unusedSimpArgs false
set_option linter.unusedVariables false
set_option linter.unnecessarySimpa false
open Go
variable {gl : Globs}

def Tm.argN (t : Tm) (i : Nat) : Tm := t.args.getD i zeroTm

end Go.Proofs.YtcldnfbcbkaanaaGreatDoor.Lift

/-
  Plain facts: lifting, putting in, reducing.
-/
namespace Go.Proofs.YtcldnfbcbkaanaaGreatDoor.Lift
set_option linter.unusedSimpArgs false
set_option linter.unusedVariables false
set_option linter.unnecessarySimpa false
open Go

def bindI (k : Int) : Int := if k = 2 then 1 else 0

namespace Tm
set_option linter.unusedSimpArgs false
set_option linter.unusedVariables false
set_option linter.unnecessarySimpa false
def upN : Tm → Int → Int → Tm
  | .mk k i ty a, f, b => .mk k (if k = 1 ∧ f ≤ i then i + b else i) ty (ups a (f + bindI k) b)
where
  ups : List Tm → Int → Int → List Tm
    | [], _, _ => []
    | x :: r, f, b => x.upN f b :: ups r f b
theorem ups_map (l : List Tm) (f b : Int) : upN.ups l f b = l.map fun x => x.upN f b := by
  induction l with
  | nil => rfl
  | cons a r ih => simp [upN.ups, ih]
theorem upN_eq (t : Tm) (f b : Int) : t.upN f b = .mk t.kind (if t.kind = 1 ∧ f ≤ t.index then t.index + b else t.index) t.type (t.args.map fun x => x.upN (f + bindI t.kind) b) := by
  cases t; rw [upN, ups_map]; rfl

/-- all indexes are numbers up to m -/
def idx : Tm → Int → Prop
  | .mk _ i _ a, m => (0 ≤ i ∧ i ≤ m) ∧ idxs a m
where
  idxs : List Tm → Int → Prop
    | [], _ => True
    | x :: r, m => x.idx m ∧ idxs r m
theorem idxs_iff (l : List Tm) (m : Int) : idx.idxs l m ↔ ∀ x ∈ l, x.idx m := by
  induction l with
  | nil => simp [idx.idxs]
  | cons a r ih => simp [idx.idxs, ih]
theorem idx_eq (t : Tm) (m : Int) : t.idx m ↔ (0 ≤ t.index ∧ t.index ≤ m) ∧ ∀ x ∈ t.args, x.idx m := by cases t; simp only [idx, idxs_iff, index, args]
theorem idx_mono {t : Tm} {m n : Int} (h : m ≤ n) (hi : t.idx m) : t.idx n := by
  induction t using Tm.ind with
  | h t ih =>
  rw [idx_eq] at hi ⊢
  exact ⟨⟨hi.1.1, by omega⟩, fun x hx => ih x hx (hi.2 x hx)⟩
end Tm
end Go.Proofs.YtcldnfbcbkaanaaGreatDoor.Lift

namespace Go.Proofs.YtcldnfbcbkaanaaGreatDoor.Lift
set_option linter.unusedSimpArgs false
set_option linter.unusedVariables false
set_option linter.unnecessarySimpa false
open Go
variable {gl : Globs}

/-- several ways lead to one state, at a place that the first way tells -/
theorem W_cutX {X : Ctx} {k kk : List Item} {s : St} (S : St) (h1 : W X kk S → W X k s) (h2 : W X kk S) : W X k s := h1 h2

theorem bindI_le (k : Int) : 0 ≤ bindI k ∧ bindI k ≤ 1 := by unfold bindI; split <;> omega

theorem ref02_var_ok (i : Int) : Con1 Tryz.prog gl 58 [dint i] [] (Tm.mk 1 i (Ty.mk 0 []) []).dv [] := by
  refine t_in Tryz.func58 ?_
  intro X hP hgl hf hfn hn hR hids hfit
  refine t_g0 ?_
  refine t_r ?_
  simp [go_sem, hP, hgl, hn] <;> (try omega)
  all_goals exact t_f

end Go.Proofs.YtcldnfbcbkaanaaGreatDoor.Lift

namespace Go.Proofs.YtcldnfbcbkaanaaGreatDoor.Lift
set_option linter.unusedSimpArgs false
set_option linter.unusedVariables false
set_option linter.unnecessarySimpa false
open Go
variable {gl : Globs}

def appT (f a : Tm) : Tm := Tm.mk 3 0 (Ty.mk 0 []) [f, a]

theorem ref02_t_ok (k : Int) (s : Ty) (l : List Tm) : Con1 Tryz.prog gl 66 [dint k, s.dv, .sl (l.map Tm.cells)] [] (Tm.mk k 0 s l).dv [] := by
  refine t_in Tryz.func66 ?_
  intro X hP hgl hf hfn hn hR hids hfit
  refine t_g0 ?_
  refine t_c1 trivial (ref02_n_ok k l) ?_
  refine t_g0 ?_
  refine t_c1 trivial (ref01_copy_ok s) ?_
  refine t_g0 ?_
  refine t_r ?_
  simp [go_sem, hP, hgl, hn] <;> (try omega)
  all_goals exact t_f

end Go.Proofs.YtcldnfbcbkaanaaGreatDoor.Lift

