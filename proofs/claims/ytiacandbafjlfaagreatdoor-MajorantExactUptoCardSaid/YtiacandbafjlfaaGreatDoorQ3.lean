import Derived.Test.YtiacandbafjlfaaGreatDoorQ2
import Derived.Test.YtiacandbafjlfaaGreatDoorProg
/-
  Facts of the seat's types, printed by a program: each is proved by reckoning.
-/
namespace Go.Proofs.YtiacandbafjlfaaGreatDoor.Lift
set_option linter.unusedVariables false
open Go

theorem mixed : Tryz.prog.follows .mixedOrders = true := by kernel_rfl
-- 0: ()
theorem lay0 : layT Tryz.prog 0 = some (false, 1) := by kernel_rfl
theorem con0 : concT Tryz.prog 0 = true := by kernel_rfl
-- 1: func()
theorem lay1 : layT Tryz.prog 1 = some (false, 1) := by kernel_rfl
theorem zer1 : zeroT Tryz.prog 1 = some [.v (.prim .nilFunc)] := by kernel_rfl
theorem con1 : concT Tryz.prog 1 = true := by kernel_rfl
-- 2: int64
theorem lay2 : layT Tryz.prog 2 = some (false, 1) := by kernel_rfl
theorem zer2 : zeroT Tryz.prog 2 = some [.v (.prim (.int .i64 (0)))] := by kernel_rfl
theorem zrp2 : zeroP Tryz.prog 2 = some (.int .i64 (0)) := by kernel_rfl
theorem con2 : concT Tryz.prog 2 = true := by kernel_rfl
theorem int2 : intT Tryz.prog 2 = some .i64 := by kernel_rfl
-- 3: int
theorem lay3 : layT Tryz.prog 3 = some (false, 1) := by kernel_rfl
theorem zer3 : zeroT Tryz.prog 3 = some [.v (.prim (.int .i64 (0)))] := by kernel_rfl
theorem zrp3 : zeroP Tryz.prog 3 = some (.int .i64 (0)) := by kernel_rfl
theorem con3 : concT Tryz.prog 3 = true := by kernel_rfl
theorem int3 : intT Tryz.prog 3 = some .i64 := by kernel_rfl
-- 4: bool
theorem lay4 : layT Tryz.prog 4 = some (false, 1) := by kernel_rfl
theorem zer4 : zeroT Tryz.prog 4 = some [.v (.prim (.bool false))] := by kernel_rfl
theorem boo4 : boolT Tryz.prog 4 = true := by kernel_rfl
theorem con4 : concT Tryz.prog 4 = true := by kernel_rfl
-- 5: uint8
theorem lay5 : layT Tryz.prog 5 = some (false, 1) := by kernel_rfl
theorem zer5 : zeroT Tryz.prog 5 = some [.v (.prim (.int .u8 (0)))] := by kernel_rfl
theorem zrp5 : zeroP Tryz.prog 5 = some (.int .u8 (0)) := by kernel_rfl
theorem con5 : concT Tryz.prog 5 = true := by kernel_rfl
theorem int5 : intT Tryz.prog 5 = some .u8 := by kernel_rfl
-- 6: abi.BoundsErrorCode
theorem lay6 : layT Tryz.prog 6 = some (false, 1) := by kernel_rfl
theorem zer6 : zeroT Tryz.prog 6 = some [.v (.prim (.int .u8 (0)))] := by kernel_rfl
theorem zrp6 : zeroP Tryz.prog 6 = some (.int .u8 (0)) := by kernel_rfl
theorem con6 : concT Tryz.prog 6 = true := by kernel_rfl
theorem int6 : intT Tryz.prog 6 = some .u8 := by kernel_rfl
-- 7: struct { x int64; y int; signed bool; code abi.BoundsErrorCode }
theorem lay7 : layT Tryz.prog 7 = some (true, 4) := by kernel_rfl
theorem zer7 : zeroT Tryz.prog 7 = some [.v (.prim (.int .i64 (0))), .v (.prim (.int .i64 (0))), .v (.prim (.bool false)), .v (.prim (.int .u8 (0)))] := by kernel_rfl
theorem pla7 : placesT Tryz.prog 7 = some [(0, 1), (1, 1), (2, 1), (3, 1)] := by kernel_rfl
theorem con7 : concT Tryz.prog 7 = true := by kernel_rfl
theorem fld7_0 : fieldT Tryz.prog 7 0 = some (false, 0, 1) := by kernel_rfl
theorem fld7_1 : fieldT Tryz.prog 7 1 = some (false, 1, 1) := by kernel_rfl
theorem fld7_2 : fieldT Tryz.prog 7 2 = some (false, 2, 1) := by kernel_rfl
theorem fld7_3 : fieldT Tryz.prog 7 3 = some (false, 3, 1) := by kernel_rfl
-- 8: runtime.boundsError
theorem lay8 : layT Tryz.prog 8 = some (true, 4) := by kernel_rfl
theorem zer8 : zeroT Tryz.prog 8 = some [.v (.prim (.int .i64 (0))), .v (.prim (.int .i64 (0))), .v (.prim (.bool false)), .v (.prim (.int .u8 (0)))] := by kernel_rfl
theorem pla8 : placesT Tryz.prog 8 = some [(0, 1), (1, 1), (2, 1), (3, 1)] := by kernel_rfl
theorem con8 : concT Tryz.prog 8 = true := by kernel_rfl
theorem fld8_0 : fieldT Tryz.prog 8 0 = some (false, 0, 1) := by kernel_rfl
theorem fld8_1 : fieldT Tryz.prog 8 1 = some (false, 1, 1) := by kernel_rfl
theorem fld8_2 : fieldT Tryz.prog 8 2 = some (false, 2, 1) := by kernel_rfl
theorem fld8_3 : fieldT Tryz.prog 8 3 = some (false, 3, 1) := by kernel_rfl
-- 9: string
theorem lay9 : layT Tryz.prog 9 = some (false, 1) := by kernel_rfl
theorem zer9 : zeroT Tryz.prog 9 = some [.v (.prim (.string ByteArray.empty))] := by kernel_rfl
theorem con9 : concT Tryz.prog 9 = true := by kernel_rfl
-- 10: runtime.errorString
theorem lay10 : layT Tryz.prog 10 = some (false, 1) := by kernel_rfl
theorem zer10 : zeroT Tryz.prog 10 = some [.v (.prim (.string ByteArray.empty))] := by kernel_rfl
theorem con10 : concT Tryz.prog 10 = true := by kernel_rfl
-- 11: runtime.plainError
theorem lay11 : layT Tryz.prog 11 = some (false, 1) := by kernel_rfl
theorem zer11 : zeroT Tryz.prog 11 = some [.v (.prim (.string ByteArray.empty))] := by kernel_rfl
theorem con11 : concT Tryz.prog 11 = true := by kernel_rfl
-- 12: uintptr
theorem lay12 : layT Tryz.prog 12 = some (false, 1) := by kernel_rfl
theorem zer12 : zeroT Tryz.prog 12 = some [.v (.prim (.int .u64 (0)))] := by kernel_rfl
theorem zrp12 : zeroP Tryz.prog 12 = some (.int .u64 (0)) := by kernel_rfl
theorem con12 : concT Tryz.prog 12 = true := by kernel_rfl
theorem int12 : intT Tryz.prog 12 = some .u64 := by kernel_rfl
-- 13: struct { msg string; addr uintptr }
theorem lay13 : layT Tryz.prog 13 = some (true, 2) := by kernel_rfl
theorem zer13 : zeroT Tryz.prog 13 = some [.v (.prim (.string ByteArray.empty)), .v (.prim (.int .u64 (0)))] := by kernel_rfl
theorem pla13 : placesT Tryz.prog 13 = some [(0, 1), (1, 1)] := by kernel_rfl
theorem con13 : concT Tryz.prog 13 = true := by kernel_rfl
theorem fld13_0 : fieldT Tryz.prog 13 0 = some (false, 0, 1) := by kernel_rfl
theorem fld13_1 : fieldT Tryz.prog 13 1 = some (false, 1, 1) := by kernel_rfl
-- 14: runtime.errorAddressString
theorem lay14 : layT Tryz.prog 14 = some (true, 2) := by kernel_rfl
theorem zer14 : zeroT Tryz.prog 14 = some [.v (.prim (.string ByteArray.empty)), .v (.prim (.int .u64 (0)))] := by kernel_rfl
theorem pla14 : placesT Tryz.prog 14 = some [(0, 1), (1, 1)] := by kernel_rfl
theorem con14 : concT Tryz.prog 14 = true := by kernel_rfl
theorem fld14_0 : fieldT Tryz.prog 14 0 = some (false, 0, 1) := by kernel_rfl
theorem fld14_1 : fieldT Tryz.prog 14 1 = some (false, 1, 1) := by kernel_rfl
-- 15: *runtime.TypeAssertionError
theorem lay15 : layT Tryz.prog 15 = some (false, 1) := by kernel_rfl
theorem zer15 : zeroT Tryz.prog 15 = some [.v (.prim (.pointer none))] := by kernel_rfl
theorem ptr15 : ptrT Tryz.prog 15 = true := by kernel_rfl
theorem zrp15 : zeroP Tryz.prog 15 = some (.pointer none) := by kernel_rfl
theorem con15 : concT Tryz.prog 15 = true := by kernel_rfl
-- 16: *runtime.PanicNilError
theorem lay16 : layT Tryz.prog 16 = some (false, 1) := by kernel_rfl
theorem zer16 : zeroT Tryz.prog 16 = some [.v (.prim (.pointer none))] := by kernel_rfl
theorem ptr16 : ptrT Tryz.prog 16 = true := by kernel_rfl
theorem zrp16 : zeroP Tryz.prog 16 = some (.pointer none) := by kernel_rfl
theorem con16 : concT Tryz.prog 16 = true := by kernel_rfl
-- 17: *abi.Type
theorem lay17 : layT Tryz.prog 17 = some (false, 1) := by kernel_rfl
theorem zer17 : zeroT Tryz.prog 17 = some [.v (.prim (.pointer none))] := by kernel_rfl
theorem ptr17 : ptrT Tryz.prog 17 = true := by kernel_rfl
theorem zrp17 : zeroP Tryz.prog 17 = some (.pointer none) := by kernel_rfl
theorem con17 : concT Tryz.prog 17 = true := by kernel_rfl
-- 18: struct { typ *abi.Type }
theorem lay18 : layT Tryz.prog 18 = some (true, 1) := by kernel_rfl
theorem zer18 : zeroT Tryz.prog 18 = some [.v (.prim (.pointer none))] := by kernel_rfl
theorem pla18 : placesT Tryz.prog 18 = some [(0, 1)] := by kernel_rfl
theorem con18 : concT Tryz.prog 18 = true := by kernel_rfl
theorem fld18_0 : fieldT Tryz.prog 18 0 = some (false, 0, 1) := by kernel_rfl
-- 19: maps.unhashableTypeError
theorem lay19 : layT Tryz.prog 19 = some (true, 1) := by kernel_rfl
theorem zer19 : zeroT Tryz.prog 19 = some [.v (.prim (.pointer none))] := by kernel_rfl
theorem pla19 : placesT Tryz.prog 19 = some [(0, 1)] := by kernel_rfl
theorem con19 : concT Tryz.prog 19 = true := by kernel_rfl
theorem fld19_0 : fieldT Tryz.prog 19 0 = some (false, 0, 1) := by kernel_rfl
-- 20: interface {}
theorem lay20 : layT Tryz.prog 20 = some (false, 1) := by kernel_rfl
theorem zer20 : zeroT Tryz.prog 20 = some [.v (.prim .nilIface)] := by kernel_rfl
-- 21: int32
theorem lay21 : layT Tryz.prog 21 = some (false, 1) := by kernel_rfl
theorem zer21 : zeroT Tryz.prog 21 = some [.v (.prim (.int .i32 (0)))] := by kernel_rfl
theorem zrp21 : zeroP Tryz.prog 21 = some (.int .i32 (0)) := by kernel_rfl
theorem con21 : concT Tryz.prog 21 = true := by kernel_rfl
theorem int21 : intT Tryz.prog 21 = some .i32 := by kernel_rfl
-- 22: []int
theorem lay22 : layT Tryz.prog 22 = some (false, 1) := by kernel_rfl
theorem zer22 : zeroT Tryz.prog 22 = some [.own 0 []] := by kernel_rfl
theorem ele22 : elemT Tryz.prog 22 = some 1 := by kernel_rfl
theorem elz22 : elemZ Tryz.prog 22 = some (1, 8) := by kernel_rfl
theorem con22 : concT Tryz.prog 22 = true := by kernel_rfl
-- 23: []api.Type
theorem lay23 : layT Tryz.prog 23 = some (false, 1) := by kernel_rfl
theorem zer23 : zeroT Tryz.prog 23 = some [.own 0 []] := by kernel_rfl
theorem ele23 : elemT Tryz.prog 23 = some 2 := by kernel_rfl
theorem elz23 : elemZ Tryz.prog 23 = some (2, 32) := by kernel_rfl
theorem con23 : concT Tryz.prog 23 = true := by kernel_rfl
-- 24: struct { Kind int; Args []api.Type }
theorem lay24 : layT Tryz.prog 24 = some (true, 2) := by kernel_rfl
theorem zer24 : zeroT Tryz.prog 24 = some [.v (.prim (.int .i64 (0))), .own 0 []] := by kernel_rfl
theorem pla24 : placesT Tryz.prog 24 = some [(0, 1), (1, 1)] := by kernel_rfl
theorem con24 : concT Tryz.prog 24 = true := by kernel_rfl
theorem fld24_0 : fieldT Tryz.prog 24 0 = some (false, 0, 1) := by kernel_rfl
theorem fld24_1 : fieldT Tryz.prog 24 1 = some (false, 1, 1) := by kernel_rfl
-- 25: api.Type
theorem lay25 : layT Tryz.prog 25 = some (true, 2) := by kernel_rfl
theorem zer25 : zeroT Tryz.prog 25 = some [.v (.prim (.int .i64 (0))), .own 0 []] := by kernel_rfl
theorem pla25 : placesT Tryz.prog 25 = some [(0, 1), (1, 1)] := by kernel_rfl
theorem con25 : concT Tryz.prog 25 = true := by kernel_rfl
theorem fld25_0 : fieldT Tryz.prog 25 0 = some (false, 0, 1) := by kernel_rfl
theorem fld25_1 : fieldT Tryz.prog 25 1 = some (false, 1, 1) := by kernel_rfl
-- 26: []api.Term
theorem lay26 : layT Tryz.prog 26 = some (false, 1) := by kernel_rfl
theorem zer26 : zeroT Tryz.prog 26 = some [.own 0 []] := by kernel_rfl
theorem ele26 : elemT Tryz.prog 26 = some 5 := by kernel_rfl
theorem elz26 : elemZ Tryz.prog 26 = some (5, 72) := by kernel_rfl
theorem con26 : concT Tryz.prog 26 = true := by kernel_rfl
-- 27: struct { Kind int; Index int; Type api.Type; Args []api.Term }
theorem lay27 : layT Tryz.prog 27 = some (true, 5) := by kernel_rfl
theorem zer27 : zeroT Tryz.prog 27 = some [.v (.prim (.int .i64 (0))), .v (.prim (.int .i64 (0))), .v (.prim (.int .i64 (0))), .own 0 [], .own 0 []] := by kernel_rfl
theorem pla27 : placesT Tryz.prog 27 = some [(0, 1), (1, 1), (2, 2), (4, 1)] := by kernel_rfl
theorem con27 : concT Tryz.prog 27 = true := by kernel_rfl
theorem fld27_0 : fieldT Tryz.prog 27 0 = some (false, 0, 1) := by kernel_rfl
theorem fld27_1 : fieldT Tryz.prog 27 1 = some (false, 1, 1) := by kernel_rfl
theorem fld27_2 : fieldT Tryz.prog 27 2 = some (true, 2, 2) := by kernel_rfl
theorem fld27_3 : fieldT Tryz.prog 27 3 = some (false, 4, 1) := by kernel_rfl
-- 28: api.Term
theorem lay28 : layT Tryz.prog 28 = some (true, 5) := by kernel_rfl
theorem zer28 : zeroT Tryz.prog 28 = some [.v (.prim (.int .i64 (0))), .v (.prim (.int .i64 (0))), .v (.prim (.int .i64 (0))), .own 0 [], .own 0 []] := by kernel_rfl
theorem pla28 : placesT Tryz.prog 28 = some [(0, 1), (1, 1), (2, 2), (4, 1)] := by kernel_rfl
theorem con28 : concT Tryz.prog 28 = true := by kernel_rfl
theorem fld28_0 : fieldT Tryz.prog 28 0 = some (false, 0, 1) := by kernel_rfl
theorem fld28_1 : fieldT Tryz.prog 28 1 = some (false, 1, 1) := by kernel_rfl
theorem fld28_2 : fieldT Tryz.prog 28 2 = some (true, 2, 2) := by kernel_rfl
theorem fld28_3 : fieldT Tryz.prog 28 3 = some (false, 4, 1) := by kernel_rfl
-- 29: []api.Value
theorem lay29 : layT Tryz.prog 29 = some (false, 1) := by kernel_rfl
theorem zer29 : zeroT Tryz.prog 29 = some [.own 0 []] := by kernel_rfl
theorem ele29 : elemT Tryz.prog 29 = some 4 := by kernel_rfl
theorem elz29 : elemZ Tryz.prog 29 = some (4, 64) := by kernel_rfl
theorem con29 : concT Tryz.prog 29 = true := by kernel_rfl
-- 30: struct { Kind int; Num int; List []int; Args []api.Value }
theorem lay30 : layT Tryz.prog 30 = some (true, 4) := by kernel_rfl
theorem zer30 : zeroT Tryz.prog 30 = some [.v (.prim (.int .i64 (0))), .v (.prim (.int .i64 (0))), .own 0 [], .own 0 []] := by kernel_rfl
theorem pla30 : placesT Tryz.prog 30 = some [(0, 1), (1, 1), (2, 1), (3, 1)] := by kernel_rfl
theorem con30 : concT Tryz.prog 30 = true := by kernel_rfl
theorem fld30_0 : fieldT Tryz.prog 30 0 = some (false, 0, 1) := by kernel_rfl
theorem fld30_1 : fieldT Tryz.prog 30 1 = some (false, 1, 1) := by kernel_rfl
theorem fld30_2 : fieldT Tryz.prog 30 2 = some (false, 2, 1) := by kernel_rfl
theorem fld30_3 : fieldT Tryz.prog 30 3 = some (false, 3, 1) := by kernel_rfl
-- 31: api.Value
theorem lay31 : layT Tryz.prog 31 = some (true, 4) := by kernel_rfl
theorem zer31 : zeroT Tryz.prog 31 = some [.v (.prim (.int .i64 (0))), .v (.prim (.int .i64 (0))), .own 0 [], .own 0 []] := by kernel_rfl
theorem pla31 : placesT Tryz.prog 31 = some [(0, 1), (1, 1), (2, 1), (3, 1)] := by kernel_rfl
theorem con31 : concT Tryz.prog 31 = true := by kernel_rfl
theorem fld31_0 : fieldT Tryz.prog 31 0 = some (false, 0, 1) := by kernel_rfl
theorem fld31_1 : fieldT Tryz.prog 31 1 = some (false, 1, 1) := by kernel_rfl
theorem fld31_2 : fieldT Tryz.prog 31 2 = some (false, 2, 1) := by kernel_rfl
theorem fld31_3 : fieldT Tryz.prog 31 3 = some (false, 3, 1) := by kernel_rfl
-- 32: func() bool
theorem lay32 : layT Tryz.prog 32 = some (false, 1) := by kernel_rfl
theorem zer32 : zeroT Tryz.prog 32 = some [.v (.prim .nilFunc)] := by kernel_rfl
theorem con32 : concT Tryz.prog 32 = true := by kernel_rfl
-- 33: func([]int) bool
theorem lay33 : layT Tryz.prog 33 = some (false, 1) := by kernel_rfl
theorem zer33 : zeroT Tryz.prog 33 = some [.v (.prim .nilFunc)] := by kernel_rfl
theorem con33 : concT Tryz.prog 33 = true := by kernel_rfl
-- 34: struct { N int }
theorem lay34 : layT Tryz.prog 34 = some (true, 1) := by kernel_rfl
theorem zer34 : zeroT Tryz.prog 34 = some [.v (.prim (.int .i64 (0)))] := by kernel_rfl
theorem pla34 : placesT Tryz.prog 34 = some [(0, 1)] := by kernel_rfl
theorem con34 : concT Tryz.prog 34 = true := by kernel_rfl
theorem fld34_0 : fieldT Tryz.prog 34 0 = some (false, 0, 1) := by kernel_rfl
-- 35: proofprogramsplay.Sum
theorem lay35 : layT Tryz.prog 35 = some (true, 1) := by kernel_rfl
theorem zer35 : zeroT Tryz.prog 35 = some [.v (.prim (.int .i64 (0)))] := by kernel_rfl
theorem pla35 : placesT Tryz.prog 35 = some [(0, 1)] := by kernel_rfl
theorem con35 : concT Tryz.prog 35 = true := by kernel_rfl
theorem fld35_0 : fieldT Tryz.prog 35 0 = some (false, 0, 1) := by kernel_rfl
-- 36: func() proofprogramsplay.Sum
theorem lay36 : layT Tryz.prog 36 = some (false, 1) := by kernel_rfl
theorem zer36 : zeroT Tryz.prog 36 = some [.v (.prim .nilFunc)] := by kernel_rfl
theorem con36 : concT Tryz.prog 36 = true := by kernel_rfl
-- 37: func(...api.Type) proofprogramsplay.Sum
theorem lay37 : layT Tryz.prog 37 = some (false, 1) := by kernel_rfl
theorem zer37 : zeroT Tryz.prog 37 = some [.v (.prim .nilFunc)] := by kernel_rfl
theorem con37 : concT Tryz.prog 37 = true := by kernel_rfl
-- 38: func(...api.Term) proofprogramsplay.Sum
theorem lay38 : layT Tryz.prog 38 = some (false, 1) := by kernel_rfl
theorem zer38 : zeroT Tryz.prog 38 = some [.v (.prim .nilFunc)] := by kernel_rfl
theorem con38 : concT Tryz.prog 38 = true := by kernel_rfl
-- 39: func(...api.Value) proofprogramsplay.Sum
theorem lay39 : layT Tryz.prog 39 = some (false, 1) := by kernel_rfl
theorem zer39 : zeroT Tryz.prog 39 = some [.v (.prim .nilFunc)] := by kernel_rfl
theorem con39 : concT Tryz.prog 39 = true := by kernel_rfl
-- 40: *proofprogramsmake.Deck
theorem lay40 : layT Tryz.prog 40 = some (false, 1) := by kernel_rfl
theorem zer40 : zeroT Tryz.prog 40 = some [.v (.prim (.pointer none))] := by kernel_rfl
theorem ptr40 : ptrT Tryz.prog 40 = true := by kernel_rfl
theorem zrp40 : zeroP Tryz.prog 40 = some (.pointer none) := by kernel_rfl
theorem con40 : concT Tryz.prog 40 = true := by kernel_rfl
-- 41: func([]int) *proofprogramsmake.Deck
theorem lay41 : layT Tryz.prog 41 = some (false, 1) := by kernel_rfl
theorem zer41 : zeroT Tryz.prog 41 = some [.v (.prim .nilFunc)] := by kernel_rfl
theorem con41 : concT Tryz.prog 41 = true := by kernel_rfl
-- 42: func(*proofprogramsmake.Deck) []api.Type
theorem lay42 : layT Tryz.prog 42 = some (false, 1) := by kernel_rfl
theorem zer42 : zeroT Tryz.prog 42 = some [.v (.prim .nilFunc)] := by kernel_rfl
theorem con42 : concT Tryz.prog 42 = true := by kernel_rfl
-- 43: func(*proofprogramsmake.Deck, int) api.Type
theorem lay43 : layT Tryz.prog 43 = some (false, 1) := by kernel_rfl
theorem zer43 : zeroT Tryz.prog 43 = some [.v (.prim .nilFunc)] := by kernel_rfl
theorem con43 : concT Tryz.prog 43 = true := by kernel_rfl
-- 44: api.Errno
theorem lay44 : layT Tryz.prog 44 = some (false, 1) := by kernel_rfl
theorem zer44 : zeroT Tryz.prog 44 = some [.v (.prim (.int .i64 (0)))] := by kernel_rfl
theorem zrp44 : zeroP Tryz.prog 44 = some (.int .i64 (0)) := by kernel_rfl
theorem con44 : concT Tryz.prog 44 = true := by kernel_rfl
theorem int44 : intT Tryz.prog 44 = some .i64 := by kernel_rfl
-- 45: (api.Type, api.Errno)
theorem lay45 : layT Tryz.prog 45 = some (false, 1) := by kernel_rfl
theorem con45 : concT Tryz.prog 45 = true := by kernel_rfl
-- 46: func(api.Type) (api.Type, api.Errno)
theorem lay46 : layT Tryz.prog 46 = some (false, 1) := by kernel_rfl
theorem zer46 : zeroT Tryz.prog 46 = some [.v (.prim .nilFunc)] := by kernel_rfl
theorem con46 : concT Tryz.prog 46 = true := by kernel_rfl
-- 47: func(api.Type, api.Type) bool
theorem lay47 : layT Tryz.prog 47 = some (false, 1) := by kernel_rfl
theorem zer47 : zeroT Tryz.prog 47 = some [.v (.prim .nilFunc)] := by kernel_rfl
theorem con47 : concT Tryz.prog 47 = true := by kernel_rfl
-- 48: (api.Term, api.Errno)
theorem lay48 : layT Tryz.prog 48 = some (false, 1) := by kernel_rfl
theorem con48 : concT Tryz.prog 48 = true := by kernel_rfl
-- 49: func(api.Type, api.Term, api.Term) (api.Term, api.Errno)
theorem lay49 : layT Tryz.prog 49 = some (false, 1) := by kernel_rfl
theorem zer49 : zeroT Tryz.prog 49 = some [.v (.prim .nilFunc)] := by kernel_rfl
theorem con49 : concT Tryz.prog 49 = true := by kernel_rfl
-- 50: func(*proofprogramsmake.Deck, []api.Type, api.Type, int) api.Term
theorem lay50 : layT Tryz.prog 50 = some (false, 1) := by kernel_rfl
theorem zer50 : zeroT Tryz.prog 50 = some [.v (.prim .nilFunc)] := by kernel_rfl
theorem con50 : concT Tryz.prog 50 = true := by kernel_rfl
-- 51: func(api.Term, api.Term) bool
theorem lay51 : layT Tryz.prog 51 = some (false, 1) := by kernel_rfl
theorem zer51 : zeroT Tryz.prog 51 = some [.v (.prim .nilFunc)] := by kernel_rfl
theorem con51 : concT Tryz.prog 51 = true := by kernel_rfl
-- 52: func(api.Term) (api.Term, api.Errno)
theorem lay52 : layT Tryz.prog 52 = some (false, 1) := by kernel_rfl
theorem zer52 : zeroT Tryz.prog 52 = some [.v (.prim .nilFunc)] := by kernel_rfl
theorem con52 : concT Tryz.prog 52 = true := by kernel_rfl
-- 53: func(*proofprogramsmake.Deck, api.Type) api.Value
theorem lay53 : layT Tryz.prog 53 = some (false, 1) := by kernel_rfl
theorem zer53 : zeroT Tryz.prog 53 = some [.v (.prim .nilFunc)] := by kernel_rfl
theorem con53 : concT Tryz.prog 53 = true := by kernel_rfl
-- 54: func(*proofprogramsmake.Deck) api.Type
theorem lay54 : layT Tryz.prog 54 = some (false, 1) := by kernel_rfl
theorem zer54 : zeroT Tryz.prog 54 = some [.v (.prim .nilFunc)] := by kernel_rfl
theorem con54 : concT Tryz.prog 54 = true := by kernel_rfl
-- 55: (api.Value, api.Errno)
theorem lay55 : layT Tryz.prog 55 = some (false, 1) := by kernel_rfl
theorem con55 : concT Tryz.prog 55 = true := by kernel_rfl
-- 56: func(api.Value) (api.Value, api.Errno)
theorem lay56 : layT Tryz.prog 56 = some (false, 1) := by kernel_rfl
theorem zer56 : zeroT Tryz.prog 56 = some [.v (.prim .nilFunc)] := by kernel_rfl
theorem con56 : concT Tryz.prog 56 = true := by kernel_rfl
-- 57: func(api.Value, api.Value) bool
theorem lay57 : layT Tryz.prog 57 = some (false, 1) := by kernel_rfl
theorem zer57 : zeroT Tryz.prog 57 = some [.v (.prim .nilFunc)] := by kernel_rfl
theorem con57 : concT Tryz.prog 57 = true := by kernel_rfl
-- 58: func([]int, api.Type, api.Term, api.Term, api.Value, api.Value) bool
theorem lay58 : layT Tryz.prog 58 = some (false, 1) := by kernel_rfl
theorem zer58 : zeroT Tryz.prog 58 = some [.v (.prim .nilFunc)] := by kernel_rfl
theorem con58 : concT Tryz.prog 58 = true := by kernel_rfl
-- 59: (api.Value, int, api.Errno)
theorem lay59 : layT Tryz.prog 59 = some (false, 1) := by kernel_rfl
theorem con59 : concT Tryz.prog 59 = true := by kernel_rfl
-- 60: func(api.Term, int) (api.Value, int, api.Errno)
theorem lay60 : layT Tryz.prog 60 = some (false, 1) := by kernel_rfl
theorem zer60 : zeroT Tryz.prog 60 = some [.v (.prim .nilFunc)] := by kernel_rfl
theorem con60 : concT Tryz.prog 60 = true := by kernel_rfl
-- 61: func(api.Type, int) int
theorem lay61 : layT Tryz.prog 61 = some (false, 1) := by kernel_rfl
theorem zer61 : zeroT Tryz.prog 61 = some [.v (.prim .nilFunc)] := by kernel_rfl
theorem con61 : concT Tryz.prog 61 = true := by kernel_rfl
-- 62: func(api.Term, int) int
theorem lay62 : layT Tryz.prog 62 = some (false, 1) := by kernel_rfl
theorem zer62 : zeroT Tryz.prog 62 = some [.v (.prim .nilFunc)] := by kernel_rfl
theorem con62 : concT Tryz.prog 62 = true := by kernel_rfl
-- 63: func(api.Value, int) int
theorem lay63 : layT Tryz.prog 63 = some (false, 1) := by kernel_rfl
theorem zer63 : zeroT Tryz.prog 63 = some [.v (.prim .nilFunc)] := by kernel_rfl
theorem con63 : concT Tryz.prog 63 = true := by kernel_rfl
-- 64: struct { L []int; At int }
theorem lay64 : layT Tryz.prog 64 = some (true, 2) := by kernel_rfl
theorem zer64 : zeroT Tryz.prog 64 = some [.own 0 [], .v (.prim (.int .i64 (0)))] := by kernel_rfl
theorem pla64 : placesT Tryz.prog 64 = some [(0, 1), (1, 1)] := by kernel_rfl
theorem con64 : concT Tryz.prog 64 = true := by kernel_rfl
theorem fld64_0 : fieldT Tryz.prog 64 0 = some (false, 0, 1) := by kernel_rfl
theorem fld64_1 : fieldT Tryz.prog 64 1 = some (false, 1, 1) := by kernel_rfl
-- 65: proofprogramsmake.Deck
theorem lay65 : layT Tryz.prog 65 = some (true, 2) := by kernel_rfl
theorem zer65 : zeroT Tryz.prog 65 = some [.own 0 [], .v (.prim (.int .i64 (0)))] := by kernel_rfl
theorem pla65 : placesT Tryz.prog 65 = some [(0, 1), (1, 1)] := by kernel_rfl
theorem con65 : concT Tryz.prog 65 = true := by kernel_rfl
theorem fld65_0 : fieldT Tryz.prog 65 0 = some (false, 0, 1) := by kernel_rfl
theorem fld65_1 : fieldT Tryz.prog 65 1 = some (false, 1, 1) := by kernel_rfl
-- 66: func(int) int
theorem lay66 : layT Tryz.prog 66 = some (false, 1) := by kernel_rfl
theorem zer66 : zeroT Tryz.prog 66 = some [.v (.prim .nilFunc)] := by kernel_rfl
theorem con66 : concT Tryz.prog 66 = true := by kernel_rfl
-- 67: func() api.Type
theorem lay67 : layT Tryz.prog 67 = some (false, 1) := by kernel_rfl
theorem zer67 : zeroT Tryz.prog 67 = some [.v (.prim .nilFunc)] := by kernel_rfl
theorem con67 : concT Tryz.prog 67 = true := by kernel_rfl
-- 68: func(api.Type, api.Type) api.Type
theorem lay68 : layT Tryz.prog 68 = some (false, 1) := by kernel_rfl
theorem zer68 : zeroT Tryz.prog 68 = some [.v (.prim .nilFunc)] := by kernel_rfl
theorem con68 : concT Tryz.prog 68 = true := by kernel_rfl
-- 69: func(api.Type) api.Errno
theorem lay69 : layT Tryz.prog 69 = some (false, 1) := by kernel_rfl
theorem zer69 : zeroT Tryz.prog 69 = some [.v (.prim .nilFunc)] := by kernel_rfl
theorem con69 : concT Tryz.prog 69 = true := by kernel_rfl
-- 70: func(api.Type) api.Type
theorem lay70 : layT Tryz.prog 70 = some (false, 1) := by kernel_rfl
theorem zer70 : zeroT Tryz.prog 70 = some [.v (.prim .nilFunc)] := by kernel_rfl
theorem con70 : concT Tryz.prog 70 = true := by kernel_rfl
-- 71: func(api.Type) bool
theorem lay71 : layT Tryz.prog 71 = some (false, 1) := by kernel_rfl
theorem zer71 : zeroT Tryz.prog 71 = some [.v (.prim .nilFunc)] := by kernel_rfl
theorem con71 : concT Tryz.prog 71 = true := by kernel_rfl
-- 72: func(api.Term) api.Errno
theorem lay72 : layT Tryz.prog 72 = some (false, 1) := by kernel_rfl
theorem zer72 : zeroT Tryz.prog 72 = some [.v (.prim .nilFunc)] := by kernel_rfl
theorem con72 : concT Tryz.prog 72 = true := by kernel_rfl
-- 73: func(api.Term) bool
theorem lay73 : layT Tryz.prog 73 = some (false, 1) := by kernel_rfl
theorem zer73 : zeroT Tryz.prog 73 = some [.v (.prim .nilFunc)] := by kernel_rfl
theorem con73 : concT Tryz.prog 73 = true := by kernel_rfl
-- 74: func(func(*majorant.maker) api.Term) (api.Term, api.Errno)
theorem lay74 : layT Tryz.prog 74 = some (false, 1) := by kernel_rfl
theorem zer74 : zeroT Tryz.prog 74 = some [.v (.prim .nilFunc)] := by kernel_rfl
theorem con74 : concT Tryz.prog 74 = true := by kernel_rfl
-- 75: *majorant.maker
theorem lay75 : layT Tryz.prog 75 = some (false, 1) := by kernel_rfl
theorem zer75 : zeroT Tryz.prog 75 = some [.v (.prim (.pointer none))] := by kernel_rfl
theorem ptr75 : ptrT Tryz.prog 75 = true := by kernel_rfl
theorem zrp75 : zeroP Tryz.prog 75 = some (.pointer none) := by kernel_rfl
theorem con75 : concT Tryz.prog 75 = true := by kernel_rfl
-- 76: func(api.Type, api.Term, api.Term) api.Term
theorem lay76 : layT Tryz.prog 76 = some (false, 1) := by kernel_rfl
theorem zer76 : zeroT Tryz.prog 76 = some [.v (.prim .nilFunc)] := by kernel_rfl
theorem con76 : concT Tryz.prog 76 = true := by kernel_rfl
-- 77: func(*majorant.maker) api.Term
theorem lay77 : layT Tryz.prog 77 = some (false, 1) := by kernel_rfl
theorem zer77 : zeroT Tryz.prog 77 = some [.v (.prim .nilFunc)] := by kernel_rfl
theorem con77 : concT Tryz.prog 77 = true := by kernel_rfl
-- 78: func([]api.Type, api.Type) []int
theorem lay78 : layT Tryz.prog 78 = some (false, 1) := by kernel_rfl
theorem zer78 : zeroT Tryz.prog 78 = some [.v (.prim .nilFunc)] := by kernel_rfl
theorem con78 : concT Tryz.prog 78 = true := by kernel_rfl
-- 79: func(int) api.Term
theorem lay79 : layT Tryz.prog 79 = some (false, 1) := by kernel_rfl
theorem zer79 : zeroT Tryz.prog 79 = some [.v (.prim .nilFunc)] := by kernel_rfl
theorem con79 : concT Tryz.prog 79 = true := by kernel_rfl
-- 80: func(int, ...api.Term) api.Term
theorem lay80 : layT Tryz.prog 80 = some (false, 1) := by kernel_rfl
theorem zer80 : zeroT Tryz.prog 80 = some [.v (.prim .nilFunc)] := by kernel_rfl
theorem con80 : concT Tryz.prog 80 = true := by kernel_rfl
-- 81: func(int, api.Type, ...api.Term) api.Term
theorem lay81 : layT Tryz.prog 81 = some (false, 1) := by kernel_rfl
theorem zer81 : zeroT Tryz.prog 81 = some [.v (.prim .nilFunc)] := by kernel_rfl
theorem con81 : concT Tryz.prog 81 = true := by kernel_rfl
-- 82: func([]api.Type, ...api.Type) []api.Type
theorem lay82 : layT Tryz.prog 82 = some (false, 1) := by kernel_rfl
theorem zer82 : zeroT Tryz.prog 82 = some [.v (.prim .nilFunc)] := by kernel_rfl
theorem con82 : concT Tryz.prog 82 = true := by kernel_rfl
-- 83: func(api.Term, ...api.Term) api.Term
theorem lay83 : layT Tryz.prog 83 = some (false, 1) := by kernel_rfl
theorem zer83 : zeroT Tryz.prog 83 = some [.v (.prim .nilFunc)] := by kernel_rfl
theorem con83 : concT Tryz.prog 83 = true := by kernel_rfl
-- 84: func() api.Term
theorem lay84 : layT Tryz.prog 84 = some (false, 1) := by kernel_rfl
theorem zer84 : zeroT Tryz.prog 84 = some [.v (.prim .nilFunc)] := by kernel_rfl
theorem con84 : concT Tryz.prog 84 = true := by kernel_rfl
-- 85: func(api.Term) api.Term
theorem lay85 : layT Tryz.prog 85 = some (false, 1) := by kernel_rfl
theorem zer85 : zeroT Tryz.prog 85 = some [.v (.prim .nilFunc)] := by kernel_rfl
theorem con85 : concT Tryz.prog 85 = true := by kernel_rfl
-- 86: func(api.Value) api.Errno
theorem lay86 : layT Tryz.prog 86 = some (false, 1) := by kernel_rfl
theorem zer86 : zeroT Tryz.prog 86 = some [.v (.prim .nilFunc)] := by kernel_rfl
theorem con86 : concT Tryz.prog 86 = true := by kernel_rfl
-- 87: func(api.Value) api.Value
theorem lay87 : layT Tryz.prog 87 = some (false, 1) := by kernel_rfl
theorem zer87 : zeroT Tryz.prog 87 = some [.v (.prim .nilFunc)] := by kernel_rfl
theorem con87 : concT Tryz.prog 87 = true := by kernel_rfl
-- 88: func([]int, []int) bool
theorem lay88 : layT Tryz.prog 88 = some (false, 1) := by kernel_rfl
theorem zer88 : zeroT Tryz.prog 88 = some [.v (.prim .nilFunc)] := by kernel_rfl
theorem con88 : concT Tryz.prog 88 = true := by kernel_rfl
-- 89: func(api.Term, []api.Value, int) (api.Value, int, api.Errno)
theorem lay89 : layT Tryz.prog 89 = some (false, 1) := by kernel_rfl
theorem zer89 : zeroT Tryz.prog 89 = some [.v (.prim .nilFunc)] := by kernel_rfl
theorem con89 : concT Tryz.prog 89 = true := by kernel_rfl
-- 90: func(int, int) int
theorem lay90 : layT Tryz.prog 90 = some (false, 1) := by kernel_rfl
theorem zer90 : zeroT Tryz.prog 90 = some [.v (.prim .nilFunc)] := by kernel_rfl
theorem con90 : concT Tryz.prog 90 = true := by kernel_rfl
-- 91: (int, api.Errno)
theorem lay91 : layT Tryz.prog 91 = some (false, 1) := by kernel_rfl
theorem con91 : concT Tryz.prog 91 = true := by kernel_rfl
-- 92: func(api.Type) (int, api.Errno)
theorem lay92 : layT Tryz.prog 92 = some (false, 1) := by kernel_rfl
theorem zer92 : zeroT Tryz.prog 92 = some [.v (.prim .nilFunc)] := by kernel_rfl
theorem con92 : concT Tryz.prog 92 = true := by kernel_rfl
-- 93: func(api.Type) int
theorem lay93 : layT Tryz.prog 93 = some (false, 1) := by kernel_rfl
theorem zer93 : zeroT Tryz.prog 93 = some [.v (.prim .nilFunc)] := by kernel_rfl
theorem con93 : concT Tryz.prog 93 = true := by kernel_rfl
-- 94: func(api.Term) (int, api.Errno)
theorem lay94 : layT Tryz.prog 94 = some (false, 1) := by kernel_rfl
theorem zer94 : zeroT Tryz.prog 94 = some [.v (.prim .nilFunc)] := by kernel_rfl
theorem con94 : concT Tryz.prog 94 = true := by kernel_rfl
-- 95: struct { err api.Errno }
theorem lay95 : layT Tryz.prog 95 = some (true, 1) := by kernel_rfl
theorem zer95 : zeroT Tryz.prog 95 = some [.v (.prim (.int .i64 (0)))] := by kernel_rfl
theorem pla95 : placesT Tryz.prog 95 = some [(0, 1)] := by kernel_rfl
theorem con95 : concT Tryz.prog 95 = true := by kernel_rfl
theorem fld95_0 : fieldT Tryz.prog 95 0 = some (false, 0, 1) := by kernel_rfl
-- 96: majorant.maker
theorem lay96 : layT Tryz.prog 96 = some (true, 1) := by kernel_rfl
theorem zer96 : zeroT Tryz.prog 96 = some [.v (.prim (.int .i64 (0)))] := by kernel_rfl
theorem pla96 : placesT Tryz.prog 96 = some [(0, 1)] := by kernel_rfl
theorem con96 : concT Tryz.prog 96 = true := by kernel_rfl
theorem fld96_0 : fieldT Tryz.prog 96 0 = some (false, 0, 1) := by kernel_rfl
-- 97: func(api.Term, int, int) api.Term
theorem lay97 : layT Tryz.prog 97 = some (false, 1) := by kernel_rfl
theorem zer97 : zeroT Tryz.prog 97 = some [.v (.prim .nilFunc)] := by kernel_rfl
theorem con97 : concT Tryz.prog 97 = true := by kernel_rfl
-- 98: func(api.Term) int
theorem lay98 : layT Tryz.prog 98 = some (false, 1) := by kernel_rfl
theorem zer98 : zeroT Tryz.prog 98 = some [.v (.prim .nilFunc)] := by kernel_rfl
theorem con98 : concT Tryz.prog 98 = true := by kernel_rfl
-- 99: func(api.Term, api.Term) api.Term
theorem lay99 : layT Tryz.prog 99 = some (false, 1) := by kernel_rfl
theorem zer99 : zeroT Tryz.prog 99 = some [.v (.prim .nilFunc)] := by kernel_rfl
theorem con99 : concT Tryz.prog 99 = true := by kernel_rfl
-- 100: func(api.Term, int) api.Term
theorem lay100 : layT Tryz.prog 100 = some (false, 1) := by kernel_rfl
theorem zer100 : zeroT Tryz.prog 100 = some [.v (.prim .nilFunc)] := by kernel_rfl
theorem con100 : concT Tryz.prog 100 = true := by kernel_rfl
-- 101: func(api.Type, api.Term) api.Term
theorem lay101 : layT Tryz.prog 101 = some (false, 1) := by kernel_rfl
theorem zer101 : zeroT Tryz.prog 101 = some [.v (.prim .nilFunc)] := by kernel_rfl
theorem con101 : concT Tryz.prog 101 = true := by kernel_rfl
-- 102: func(int) (api.Term, api.Errno)
theorem lay102 : layT Tryz.prog 102 = some (false, 1) := by kernel_rfl
theorem zer102 : zeroT Tryz.prog 102 = some [.v (.prim .nilFunc)] := by kernel_rfl
theorem con102 : concT Tryz.prog 102 = true := by kernel_rfl
-- 103: func(api.Term, api.Term, api.Term) api.Term
theorem lay103 : layT Tryz.prog 103 = some (false, 1) := by kernel_rfl
theorem zer103 : zeroT Tryz.prog 103 = some [.v (.prim .nilFunc)] := by kernel_rfl
theorem con103 : concT Tryz.prog 103 = true := by kernel_rfl
-- 104: func(api.Value) bool
theorem lay104 : layT Tryz.prog 104 = some (false, 1) := by kernel_rfl
theorem zer104 : zeroT Tryz.prog 104 = some [.v (.prim .nilFunc)] := by kernel_rfl
theorem con104 : concT Tryz.prog 104 = true := by kernel_rfl
-- 105: func(api.Value) int
theorem lay105 : layT Tryz.prog 105 = some (false, 1) := by kernel_rfl
theorem zer105 : zeroT Tryz.prog 105 = some [.v (.prim .nilFunc)] := by kernel_rfl
theorem con105 : concT Tryz.prog 105 = true := by kernel_rfl
-- 106: (int, bool)
theorem lay106 : layT Tryz.prog 106 = some (false, 1) := by kernel_rfl
theorem con106 : concT Tryz.prog 106 = true := by kernel_rfl
-- 107: func(api.Value) (int, bool)
theorem lay107 : layT Tryz.prog 107 = some (false, 1) := by kernel_rfl
theorem zer107 : zeroT Tryz.prog 107 = some [.v (.prim .nilFunc)] := by kernel_rfl
theorem con107 : concT Tryz.prog 107 = true := by kernel_rfl
-- 108: func([]api.Type, api.Term) (api.Type, api.Errno)
theorem lay108 : layT Tryz.prog 108 = some (false, 1) := by kernel_rfl
theorem zer108 : zeroT Tryz.prog 108 = some [.v (.prim .nilFunc)] := by kernel_rfl
theorem con108 : concT Tryz.prog 108 = true := by kernel_rfl
-- 109: func(api.Value) (api.Type, api.Errno)
theorem lay109 : layT Tryz.prog 109 = some (false, 1) := by kernel_rfl
theorem zer109 : zeroT Tryz.prog 109 = some [.v (.prim .nilFunc)] := by kernel_rfl
theorem con109 : concT Tryz.prog 109 = true := by kernel_rfl
-- 110: (bool, api.Errno)
theorem lay110 : layT Tryz.prog 110 = some (false, 1) := by kernel_rfl
theorem con110 : concT Tryz.prog 110 = true := by kernel_rfl
-- 111: func(api.Type) (bool, api.Errno)
theorem lay111 : layT Tryz.prog 111 = some (false, 1) := by kernel_rfl
theorem zer111 : zeroT Tryz.prog 111 = some [.v (.prim .nilFunc)] := by kernel_rfl
theorem con111 : concT Tryz.prog 111 = true := by kernel_rfl
-- 112: *proofprogramsref06.machine
theorem lay112 : layT Tryz.prog 112 = some (false, 1) := by kernel_rfl
theorem zer112 : zeroT Tryz.prog 112 = some [.v (.prim (.pointer none))] := by kernel_rfl
theorem ptr112 : ptrT Tryz.prog 112 = true := by kernel_rfl
theorem zrp112 : zeroP Tryz.prog 112 = some (.pointer none) := by kernel_rfl
theorem con112 : concT Tryz.prog 112 = true := by kernel_rfl
-- 113: struct { used int; most int; out bool }
theorem lay113 : layT Tryz.prog 113 = some (true, 3) := by kernel_rfl
theorem zer113 : zeroT Tryz.prog 113 = some [.v (.prim (.int .i64 (0))), .v (.prim (.int .i64 (0))), .v (.prim (.bool false))] := by kernel_rfl
theorem pla113 : placesT Tryz.prog 113 = some [(0, 1), (1, 1), (2, 1)] := by kernel_rfl
theorem con113 : concT Tryz.prog 113 = true := by kernel_rfl
theorem fld113_0 : fieldT Tryz.prog 113 0 = some (false, 0, 1) := by kernel_rfl
theorem fld113_1 : fieldT Tryz.prog 113 1 = some (false, 1, 1) := by kernel_rfl
theorem fld113_2 : fieldT Tryz.prog 113 2 = some (false, 2, 1) := by kernel_rfl
-- 114: proofprogramsref06.machine
theorem lay114 : layT Tryz.prog 114 = some (true, 3) := by kernel_rfl
theorem zer114 : zeroT Tryz.prog 114 = some [.v (.prim (.int .i64 (0))), .v (.prim (.int .i64 (0))), .v (.prim (.bool false))] := by kernel_rfl
theorem pla114 : placesT Tryz.prog 114 = some [(0, 1), (1, 1), (2, 1)] := by kernel_rfl
theorem con114 : concT Tryz.prog 114 = true := by kernel_rfl
theorem fld114_0 : fieldT Tryz.prog 114 0 = some (false, 0, 1) := by kernel_rfl
theorem fld114_1 : fieldT Tryz.prog 114 1 = some (false, 1, 1) := by kernel_rfl
theorem fld114_2 : fieldT Tryz.prog 114 2 = some (false, 2, 1) := by kernel_rfl
-- 115: []proofprogramsref06.result
theorem lay115 : layT Tryz.prog 115 = some (false, 1) := by kernel_rfl
theorem zer115 : zeroT Tryz.prog 115 = some [.own 0 []] := by kernel_rfl
theorem ele115 : elemT Tryz.prog 115 = some 9 := by kernel_rfl
theorem elz115 : elemZ Tryz.prog 115 = some (9, 152) := by kernel_rfl
theorem con115 : concT Tryz.prog 115 = true := by kernel_rfl
-- 116: struct { num int; list []int; pair []proofprogramsref06.result; body api.Term; env []proofprogramsref06.result }
theorem lay116 : layT Tryz.prog 116 = some (true, 9) := by kernel_rfl
theorem zer116 : zeroT Tryz.prog 116 = some [.v (.prim (.int .i64 (0))), .own 0 [], .own 0 [], .v (.prim (.int .i64 (0))), .v (.prim (.int .i64 (0))), .v (.prim (.int .i64 (0))), .own 0 [], .own 0 [], .own 0 []] := by kernel_rfl
theorem pla116 : placesT Tryz.prog 116 = some [(0, 1), (1, 1), (2, 1), (3, 5), (8, 1)] := by kernel_rfl
theorem con116 : concT Tryz.prog 116 = true := by kernel_rfl
theorem fld116_0 : fieldT Tryz.prog 116 0 = some (false, 0, 1) := by kernel_rfl
theorem fld116_1 : fieldT Tryz.prog 116 1 = some (false, 1, 1) := by kernel_rfl
theorem fld116_2 : fieldT Tryz.prog 116 2 = some (false, 2, 1) := by kernel_rfl
theorem fld116_3 : fieldT Tryz.prog 116 3 = some (true, 3, 5) := by kernel_rfl
theorem fld116_4 : fieldT Tryz.prog 116 4 = some (false, 8, 1) := by kernel_rfl
-- 117: proofprogramsref06.result
theorem lay117 : layT Tryz.prog 117 = some (true, 9) := by kernel_rfl
theorem zer117 : zeroT Tryz.prog 117 = some [.v (.prim (.int .i64 (0))), .own 0 [], .own 0 [], .v (.prim (.int .i64 (0))), .v (.prim (.int .i64 (0))), .v (.prim (.int .i64 (0))), .own 0 [], .own 0 [], .own 0 []] := by kernel_rfl
theorem pla117 : placesT Tryz.prog 117 = some [(0, 1), (1, 1), (2, 1), (3, 5), (8, 1)] := by kernel_rfl
theorem con117 : concT Tryz.prog 117 = true := by kernel_rfl
theorem fld117_0 : fieldT Tryz.prog 117 0 = some (false, 0, 1) := by kernel_rfl
theorem fld117_1 : fieldT Tryz.prog 117 1 = some (false, 1, 1) := by kernel_rfl
theorem fld117_2 : fieldT Tryz.prog 117 2 = some (false, 2, 1) := by kernel_rfl
theorem fld117_3 : fieldT Tryz.prog 117 3 = some (true, 3, 5) := by kernel_rfl
theorem fld117_4 : fieldT Tryz.prog 117 4 = some (false, 8, 1) := by kernel_rfl
-- 118: func(api.Term, []proofprogramsref06.result) proofprogramsref06.result
theorem lay118 : layT Tryz.prog 118 = some (false, 1) := by kernel_rfl
theorem zer118 : zeroT Tryz.prog 118 = some [.v (.prim .nilFunc)] := by kernel_rfl
theorem con118 : concT Tryz.prog 118 = true := by kernel_rfl
-- 119: func(proofprogramsref06.result, proofprogramsref06.result) proofprogramsref06.result
theorem lay119 : layT Tryz.prog 119 = some (false, 1) := by kernel_rfl
theorem zer119 : zeroT Tryz.prog 119 = some [.v (.prim .nilFunc)] := by kernel_rfl
theorem con119 : concT Tryz.prog 119 = true := by kernel_rfl
-- 120: func(api.Value) proofprogramsref06.result
theorem lay120 : layT Tryz.prog 120 = some (false, 1) := by kernel_rfl
theorem zer120 : zeroT Tryz.prog 120 = some [.v (.prim .nilFunc)] := by kernel_rfl
theorem con120 : concT Tryz.prog 120 = true := by kernel_rfl
-- 121: func(proofprogramsref06.result, api.Type) api.Value
theorem lay121 : layT Tryz.prog 121 = some (false, 1) := by kernel_rfl
theorem zer121 : zeroT Tryz.prog 121 = some [.v (.prim .nilFunc)] := by kernel_rfl
theorem con121 : concT Tryz.prog 121 = true := by kernel_rfl
-- 122: func(api.Type) (int, bool)
theorem lay122 : layT Tryz.prog 122 = some (false, 1) := by kernel_rfl
theorem zer122 : zeroT Tryz.prog 122 = some [.v (.prim .nilFunc)] := by kernel_rfl
theorem con122 : concT Tryz.prog 122 = true := by kernel_rfl
-- 123: func(api.Term) (int, bool)
theorem lay123 : layT Tryz.prog 123 = some (false, 1) := by kernel_rfl
theorem zer123 : zeroT Tryz.prog 123 = some [.v (.prim .nilFunc)] := by kernel_rfl
theorem con123 : concT Tryz.prog 123 = true := by kernel_rfl
-- 124: func(int, api.Type, ...api.Term) (api.Term, api.Errno)
theorem lay124 : layT Tryz.prog 124 = some (false, 1) := by kernel_rfl
theorem zer124 : zeroT Tryz.prog 124 = some [.v (.prim .nilFunc)] := by kernel_rfl
theorem con124 : concT Tryz.prog 124 = true := by kernel_rfl
-- 125: func(api.Term, int, int) (api.Term, api.Errno)
theorem lay125 : layT Tryz.prog 125 = some (false, 1) := by kernel_rfl
theorem zer125 : zeroT Tryz.prog 125 = some [.v (.prim .nilFunc)] := by kernel_rfl
theorem con125 : concT Tryz.prog 125 = true := by kernel_rfl
-- 126: func(int) bool
theorem lay126 : layT Tryz.prog 126 = some (false, 1) := by kernel_rfl
theorem zer126 : zeroT Tryz.prog 126 = some [.v (.prim .nilFunc)] := by kernel_rfl
theorem con126 : concT Tryz.prog 126 = true := by kernel_rfl
-- 127: func([]int, func(int) bool) bool
theorem lay127 : layT Tryz.prog 127 = some (false, 1) := by kernel_rfl
theorem zer127 : zeroT Tryz.prog 127 = some [.v (.prim .nilFunc)] := by kernel_rfl
theorem con127 : concT Tryz.prog 127 = true := by kernel_rfl
-- 128: func([]api.Type) api.Errno
theorem lay128 : layT Tryz.prog 128 = some (false, 1) := by kernel_rfl
theorem zer128 : zeroT Tryz.prog 128 = some [.v (.prim .nilFunc)] := by kernel_rfl
theorem con128 : concT Tryz.prog 128 = true := by kernel_rfl
-- 129: func(api.Value) api.Type
theorem lay129 : layT Tryz.prog 129 = some (false, 1) := by kernel_rfl
theorem zer129 : zeroT Tryz.prog 129 = some [.v (.prim .nilFunc)] := by kernel_rfl
theorem con129 : concT Tryz.prog 129 = true := by kernel_rfl
-- 130: func(int) (int, bool)
theorem lay130 : layT Tryz.prog 130 = some (false, 1) := by kernel_rfl
theorem zer130 : zeroT Tryz.prog 130 = some [.v (.prim .nilFunc)] := by kernel_rfl
theorem con130 : concT Tryz.prog 130 = true := by kernel_rfl
-- 131: func(api.Term, int) bool
theorem lay131 : layT Tryz.prog 131 = some (false, 1) := by kernel_rfl
theorem zer131 : zeroT Tryz.prog 131 = some [.v (.prim .nilFunc)] := by kernel_rfl
theorem con131 : concT Tryz.prog 131 = true := by kernel_rfl
-- 132: func([]int, func(int) bool) int
theorem lay132 : layT Tryz.prog 132 = some (false, 1) := by kernel_rfl
theorem zer132 : zeroT Tryz.prog 132 = some [.v (.prim .nilFunc)] := by kernel_rfl
theorem con132 : concT Tryz.prog 132 = true := by kernel_rfl
-- 133: [14]int
theorem lay133 : layT Tryz.prog 133 = some (true, 14) := by kernel_rfl
theorem zer133 : zeroT Tryz.prog 133 = some [.v (.prim (.int .i64 (0))), .v (.prim (.int .i64 (0))), .v (.prim (.int .i64 (0))), .v (.prim (.int .i64 (0))), .v (.prim (.int .i64 (0))), .v (.prim (.int .i64 (0))), .v (.prim (.int .i64 (0))), .v (.prim (.int .i64 (0))), .v (.prim (.int .i64 (0))), .v (.prim (.int .i64 (0))), .v (.prim (.int .i64 (0))), .v (.prim (.int .i64 (0))), .v (.prim (.int .i64 (0))), .v (.prim (.int .i64 (0)))] := by kernel_rfl
theorem eln133 : elemT Tryz.prog 133 = none := by kernel_rfl
theorem arr133 : arrT Tryz.prog 133 = some (14, 1) := by kernel_rfl
theorem pla133 : placesT Tryz.prog 133 = some [(0, 1), (1, 1), (2, 1), (3, 1), (4, 1), (5, 1), (6, 1), (7, 1), (8, 1), (9, 1), (10, 1), (11, 1), (12, 1), (13, 1)] := by kernel_rfl
theorem con133 : concT Tryz.prog 133 = true := by kernel_rfl
-- 134: func(api.Term, ...api.Type) api.Term
theorem lay134 : layT Tryz.prog 134 = some (false, 1) := by kernel_rfl
theorem zer134 : zeroT Tryz.prog 134 = some [.v (.prim .nilFunc)] := by kernel_rfl
theorem con134 : concT Tryz.prog 134 = true := by kernel_rfl
-- 135: func(int, api.Type, api.Term, api.Term, api.Term) api.Term
theorem lay135 : layT Tryz.prog 135 = some (false, 1) := by kernel_rfl
theorem zer135 : zeroT Tryz.prog 135 = some [.v (.prim .nilFunc)] := by kernel_rfl
theorem con135 : concT Tryz.prog 135 = true := by kernel_rfl
-- 136: func() string
theorem lay136 : layT Tryz.prog 136 = some (false, 1) := by kernel_rfl
theorem zer136 : zeroT Tryz.prog 136 = some [.v (.prim .nilFunc)] := by kernel_rfl
theorem con136 : concT Tryz.prog 136 = true := by kernel_rfl
-- 137: struct { _interface *abi.Type; concrete *abi.Type; asserted *abi.Type; missingMethod string }
theorem lay137 : layT Tryz.prog 137 = some (true, 4) := by kernel_rfl
theorem zer137 : zeroT Tryz.prog 137 = some [.v (.prim (.pointer none)), .v (.prim (.pointer none)), .v (.prim (.pointer none)), .v (.prim (.string ByteArray.empty))] := by kernel_rfl
theorem pla137 : placesT Tryz.prog 137 = some [(0, 1), (1, 1), (2, 1), (3, 1)] := by kernel_rfl
theorem con137 : concT Tryz.prog 137 = true := by kernel_rfl
theorem fld137_0 : fieldT Tryz.prog 137 0 = some (false, 0, 1) := by kernel_rfl
theorem fld137_1 : fieldT Tryz.prog 137 1 = some (false, 1, 1) := by kernel_rfl
theorem fld137_2 : fieldT Tryz.prog 137 2 = some (false, 2, 1) := by kernel_rfl
theorem fld137_3 : fieldT Tryz.prog 137 3 = some (false, 3, 1) := by kernel_rfl
-- 138: runtime.TypeAssertionError
theorem lay138 : layT Tryz.prog 138 = some (true, 4) := by kernel_rfl
theorem zer138 : zeroT Tryz.prog 138 = some [.v (.prim (.pointer none)), .v (.prim (.pointer none)), .v (.prim (.pointer none)), .v (.prim (.string ByteArray.empty))] := by kernel_rfl
theorem pla138 : placesT Tryz.prog 138 = some [(0, 1), (1, 1), (2, 1), (3, 1)] := by kernel_rfl
theorem con138 : concT Tryz.prog 138 = true := by kernel_rfl
theorem fld138_0 : fieldT Tryz.prog 138 0 = some (false, 0, 1) := by kernel_rfl
theorem fld138_1 : fieldT Tryz.prog 138 1 = some (false, 1, 1) := by kernel_rfl
theorem fld138_2 : fieldT Tryz.prog 138 2 = some (false, 2, 1) := by kernel_rfl
theorem fld138_3 : fieldT Tryz.prog 138 3 = some (false, 3, 1) := by kernel_rfl
-- 139: [0]*runtime.PanicNilError
theorem lay139 : layT Tryz.prog 139 = some (true, 0) := by kernel_rfl
theorem zer139 : zeroT Tryz.prog 139 = some [] := by kernel_rfl
theorem eln139 : elemT Tryz.prog 139 = none := by kernel_rfl
theorem arr139 : arrT Tryz.prog 139 = some (0, 1) := by kernel_rfl
theorem pla139 : placesT Tryz.prog 139 = some [] := by kernel_rfl
theorem con139 : concT Tryz.prog 139 = true := by kernel_rfl
-- 140: struct { _ [0]*runtime.PanicNilError }
theorem lay140 : layT Tryz.prog 140 = some (true, 0) := by kernel_rfl
theorem zer140 : zeroT Tryz.prog 140 = some [] := by kernel_rfl
theorem pla140 : placesT Tryz.prog 140 = some [(0, 0)] := by kernel_rfl
theorem con140 : concT Tryz.prog 140 = true := by kernel_rfl
-- 141: runtime.PanicNilError
theorem lay141 : layT Tryz.prog 141 = some (true, 0) := by kernel_rfl
theorem zer141 : zeroT Tryz.prog 141 = some [] := by kernel_rfl
theorem pla141 : placesT Tryz.prog 141 = some [(0, 0)] := by kernel_rfl
theorem con141 : concT Tryz.prog 141 = true := by kernel_rfl
-- 142: func() int
theorem lay142 : layT Tryz.prog 142 = some (false, 1) := by kernel_rfl
theorem zer142 : zeroT Tryz.prog 142 = some [.v (.prim .nilFunc)] := by kernel_rfl
theorem con142 : concT Tryz.prog 142 = true := by kernel_rfl
-- 143: uint32
theorem lay143 : layT Tryz.prog 143 = some (false, 1) := by kernel_rfl
theorem zer143 : zeroT Tryz.prog 143 = some [.v (.prim (.int .u32 (0)))] := by kernel_rfl
theorem zrp143 : zeroP Tryz.prog 143 = some (.int .u32 (0)) := by kernel_rfl
theorem con143 : concT Tryz.prog 143 = true := by kernel_rfl
theorem int143 : intT Tryz.prog 143 = some .u32 := by kernel_rfl
-- 144: abi.TFlag
theorem lay144 : layT Tryz.prog 144 = some (false, 1) := by kernel_rfl
theorem zer144 : zeroT Tryz.prog 144 = some [.v (.prim (.int .u8 (0)))] := by kernel_rfl
theorem zrp144 : zeroP Tryz.prog 144 = some (.int .u8 (0)) := by kernel_rfl
theorem con144 : concT Tryz.prog 144 = true := by kernel_rfl
theorem int144 : intT Tryz.prog 144 = some .u8 := by kernel_rfl
-- 145: abi.Kind
theorem lay145 : layT Tryz.prog 145 = some (false, 1) := by kernel_rfl
theorem zer145 : zeroT Tryz.prog 145 = some [.v (.prim (.int .u8 (0)))] := by kernel_rfl
theorem zrp145 : zeroP Tryz.prog 145 = some (.int .u8 (0)) := by kernel_rfl
theorem con145 : concT Tryz.prog 145 = true := by kernel_rfl
theorem int145 : intT Tryz.prog 145 = some .u8 := by kernel_rfl
-- 146: func(unsafe.Pointer, unsafe.Pointer) bool
theorem lay146 : layT Tryz.prog 146 = some (false, 1) := by kernel_rfl
theorem zer146 : zeroT Tryz.prog 146 = some [.v (.prim .nilFunc)] := by kernel_rfl
theorem con146 : concT Tryz.prog 146 = true := by kernel_rfl
-- 147: *uint8
theorem lay147 : layT Tryz.prog 147 = some (false, 1) := by kernel_rfl
theorem zer147 : zeroT Tryz.prog 147 = some [.v (.prim (.pointer none))] := by kernel_rfl
theorem ptr147 : ptrT Tryz.prog 147 = true := by kernel_rfl
theorem zrp147 : zeroP Tryz.prog 147 = some (.pointer none) := by kernel_rfl
theorem con147 : concT Tryz.prog 147 = true := by kernel_rfl
-- 148: abi.NameOff
theorem lay148 : layT Tryz.prog 148 = some (false, 1) := by kernel_rfl
theorem zer148 : zeroT Tryz.prog 148 = some [.v (.prim (.int .i32 (0)))] := by kernel_rfl
theorem zrp148 : zeroP Tryz.prog 148 = some (.int .i32 (0)) := by kernel_rfl
theorem con148 : concT Tryz.prog 148 = true := by kernel_rfl
theorem int148 : intT Tryz.prog 148 = some .i32 := by kernel_rfl
-- 149: abi.TypeOff
theorem lay149 : layT Tryz.prog 149 = some (false, 1) := by kernel_rfl
theorem zer149 : zeroT Tryz.prog 149 = some [.v (.prim (.int .i32 (0)))] := by kernel_rfl
theorem zrp149 : zeroP Tryz.prog 149 = some (.int .i32 (0)) := by kernel_rfl
theorem con149 : concT Tryz.prog 149 = true := by kernel_rfl
theorem int149 : intT Tryz.prog 149 = some .i32 := by kernel_rfl
-- 150: struct { Size_ uintptr; PtrBytes uintptr; Hash uint32; TFlag abi.TFlag; Align_ uint8; FieldAlign_ uint8; Kind_ abi.Kind; Equal func(unsafe.Pointer, unsafe.Pointer) bool; GCData *uint8; Str abi.NameOff; PtrToThis abi.TypeOff }
theorem lay150 : layT Tryz.prog 150 = some (true, 11) := by kernel_rfl
theorem zer150 : zeroT Tryz.prog 150 = some [.v (.prim (.int .u64 (0))), .v (.prim (.int .u64 (0))), .v (.prim (.int .u32 (0))), .v (.prim (.int .u8 (0))), .v (.prim (.int .u8 (0))), .v (.prim (.int .u8 (0))), .v (.prim (.int .u8 (0))), .v (.prim .nilFunc), .v (.prim (.pointer none)), .v (.prim (.int .i32 (0))), .v (.prim (.int .i32 (0)))] := by kernel_rfl
theorem pla150 : placesT Tryz.prog 150 = some [(0, 1), (1, 1), (2, 1), (3, 1), (4, 1), (5, 1), (6, 1), (7, 1), (8, 1), (9, 1), (10, 1)] := by kernel_rfl
theorem con150 : concT Tryz.prog 150 = true := by kernel_rfl
theorem fld150_0 : fieldT Tryz.prog 150 0 = some (false, 0, 1) := by kernel_rfl
theorem fld150_1 : fieldT Tryz.prog 150 1 = some (false, 1, 1) := by kernel_rfl
theorem fld150_2 : fieldT Tryz.prog 150 2 = some (false, 2, 1) := by kernel_rfl
theorem fld150_3 : fieldT Tryz.prog 150 3 = some (false, 3, 1) := by kernel_rfl
theorem fld150_4 : fieldT Tryz.prog 150 4 = some (false, 4, 1) := by kernel_rfl
theorem fld150_5 : fieldT Tryz.prog 150 5 = some (false, 5, 1) := by kernel_rfl
theorem fld150_6 : fieldT Tryz.prog 150 6 = some (false, 6, 1) := by kernel_rfl
theorem fld150_7 : fieldT Tryz.prog 150 7 = some (false, 7, 1) := by kernel_rfl
theorem fld150_8 : fieldT Tryz.prog 150 8 = some (false, 8, 1) := by kernel_rfl
theorem fld150_9 : fieldT Tryz.prog 150 9 = some (false, 9, 1) := by kernel_rfl
theorem fld150_10 : fieldT Tryz.prog 150 10 = some (false, 10, 1) := by kernel_rfl
-- 151: abi.Type
theorem lay151 : layT Tryz.prog 151 = some (true, 11) := by kernel_rfl
theorem zer151 : zeroT Tryz.prog 151 = some [.v (.prim (.int .u64 (0))), .v (.prim (.int .u64 (0))), .v (.prim (.int .u32 (0))), .v (.prim (.int .u8 (0))), .v (.prim (.int .u8 (0))), .v (.prim (.int .u8 (0))), .v (.prim (.int .u8 (0))), .v (.prim .nilFunc), .v (.prim (.pointer none)), .v (.prim (.int .i32 (0))), .v (.prim (.int .i32 (0)))] := by kernel_rfl
theorem pla151 : placesT Tryz.prog 151 = some [(0, 1), (1, 1), (2, 1), (3, 1), (4, 1), (5, 1), (6, 1), (7, 1), (8, 1), (9, 1), (10, 1)] := by kernel_rfl
theorem con151 : concT Tryz.prog 151 = true := by kernel_rfl
theorem fld151_0 : fieldT Tryz.prog 151 0 = some (false, 0, 1) := by kernel_rfl
theorem fld151_1 : fieldT Tryz.prog 151 1 = some (false, 1, 1) := by kernel_rfl
theorem fld151_2 : fieldT Tryz.prog 151 2 = some (false, 2, 1) := by kernel_rfl
theorem fld151_3 : fieldT Tryz.prog 151 3 = some (false, 3, 1) := by kernel_rfl
theorem fld151_4 : fieldT Tryz.prog 151 4 = some (false, 4, 1) := by kernel_rfl
theorem fld151_5 : fieldT Tryz.prog 151 5 = some (false, 5, 1) := by kernel_rfl
theorem fld151_6 : fieldT Tryz.prog 151 6 = some (false, 6, 1) := by kernel_rfl
theorem fld151_7 : fieldT Tryz.prog 151 7 = some (false, 7, 1) := by kernel_rfl
theorem fld151_8 : fieldT Tryz.prog 151 8 = some (false, 8, 1) := by kernel_rfl
theorem fld151_9 : fieldT Tryz.prog 151 9 = some (false, 9, 1) := by kernel_rfl
theorem fld151_10 : fieldT Tryz.prog 151 10 = some (false, 10, 1) := by kernel_rfl
-- 152: unsafe.Pointer
theorem lay152 : layT Tryz.prog 152 = some (false, 1) := by kernel_rfl
theorem zer152 : zeroT Tryz.prog 152 = some [.v (.prim (.pointer none))] := by kernel_rfl
theorem zrp152 : zeroP Tryz.prog 152 = some (.pointer none) := by kernel_rfl
theorem con152 : concT Tryz.prog 152 = true := by kernel_rfl

attribute [go_sem] lay0 con0 lay1 zer1 con1 lay2 zer2 zrp2 con2 int2 lay3 zer3 zrp3 con3 int3 lay4 zer4 boo4 con4 lay5 zer5 zrp5 con5 int5 lay6 zer6 zrp6 con6 int6 lay7 zer7 pla7 con7 fld7_0 fld7_1 fld7_2 fld7_3 lay8 zer8 pla8 con8 fld8_0 fld8_1 fld8_2 fld8_3 lay9 zer9 con9 lay10 zer10 con10 lay11 zer11 con11 lay12 zer12 zrp12 con12 int12 lay13 zer13 pla13 con13 fld13_0 fld13_1 lay14 zer14 pla14 con14 fld14_0 fld14_1 lay15 zer15 ptr15 zrp15 con15 lay16 zer16 ptr16 zrp16 con16 lay17 zer17 ptr17 zrp17 con17 lay18 zer18 pla18 con18 fld18_0 lay19 zer19 pla19 con19 fld19_0 lay20 zer20 lay21 zer21 zrp21 con21 int21 lay22 zer22 ele22 elz22 con22 lay23 zer23 ele23 elz23 con23 lay24 zer24 pla24 con24 fld24_0 fld24_1 lay25 zer25 pla25 con25 fld25_0 fld25_1 lay26 zer26 ele26 elz26 con26 lay27 zer27 pla27 con27 fld27_0 fld27_1 fld27_2 fld27_3 lay28 zer28 pla28 con28 fld28_0 fld28_1 fld28_2 fld28_3 lay29 zer29 ele29 elz29 con29 lay30 zer30 pla30 con30 fld30_0 fld30_1 fld30_2 fld30_3 lay31 zer31 pla31 con31 fld31_0 fld31_1 fld31_2 fld31_3 lay32 zer32 con32 lay33 zer33 con33 lay34 zer34 pla34 con34 fld34_0 lay35 zer35 pla35 con35 fld35_0 lay36 zer36 con36 lay37 zer37 con37 lay38 zer38 con38 lay39 zer39 con39 lay40 zer40 ptr40 zrp40 con40 lay41 zer41 con41 lay42 zer42 con42 lay43 zer43 con43 lay44 zer44 zrp44 con44 int44 lay45 con45 lay46 zer46 con46 lay47 zer47 con47 lay48 con48 lay49 zer49 con49 lay50 zer50 con50 lay51 zer51 con51 lay52 zer52 con52 lay53 zer53 con53 lay54 zer54 con54 lay55 con55 lay56 zer56 con56 lay57 zer57 con57 lay58 zer58 con58 lay59 con59 lay60 zer60 con60 lay61 zer61 con61 lay62 zer62 con62 lay63 zer63 con63 lay64 zer64 pla64 con64 fld64_0 fld64_1 lay65 zer65 pla65 con65 fld65_0 fld65_1 lay66 zer66 con66 lay67 zer67 con67 lay68 zer68 con68 lay69 zer69 con69 lay70 zer70 con70 lay71 zer71 con71 lay72 zer72 con72 lay73 zer73 con73 lay74 zer74 con74 lay75 zer75 ptr75 zrp75 con75 lay76 zer76 con76 lay77 zer77 con77 lay78 zer78 con78 lay79 zer79 con79 lay80 zer80 con80 lay81 zer81 con81 lay82 zer82 con82 lay83 zer83 con83 lay84 zer84 con84 lay85 zer85 con85 lay86 zer86 con86 lay87 zer87 con87 lay88 zer88 con88 lay89 zer89 con89 lay90 zer90 con90 lay91 con91 lay92 zer92 con92 lay93 zer93 con93 lay94 zer94 con94 lay95 zer95 pla95 con95 fld95_0 lay96 zer96 pla96 con96 fld96_0 lay97 zer97 con97 lay98 zer98 con98 lay99 zer99 con99 lay100 zer100 con100 lay101 zer101 con101 lay102 zer102 con102 lay103 zer103 con103 lay104 zer104 con104 lay105 zer105 con105 lay106 con106 lay107 zer107 con107 lay108 zer108 con108 lay109 zer109 con109 lay110 con110 lay111 zer111 con111 lay112 zer112 ptr112 zrp112 con112 lay113 zer113 pla113 con113 fld113_0 fld113_1 fld113_2 lay114 zer114 pla114 con114 fld114_0 fld114_1 fld114_2 lay115 zer115 ele115 elz115 con115 lay116 zer116 pla116 con116 fld116_0 fld116_1 fld116_2 fld116_3 fld116_4 lay117 zer117 pla117 con117 fld117_0 fld117_1 fld117_2 fld117_3 fld117_4 lay118 zer118 con118 lay119 zer119 con119 lay120 zer120 con120 lay121 zer121 con121 lay122 zer122 con122 lay123 zer123 con123 lay124 zer124 con124 lay125 zer125 con125 lay126 zer126 con126 lay127 zer127 con127 lay128 zer128 con128 lay129 zer129 con129 lay130 zer130 con130 lay131 zer131 con131 lay132 zer132 con132 lay133 zer133 eln133 arr133 pla133 con133 lay134 zer134 con134 lay135 zer135 con135 lay136 zer136 con136 lay137 zer137 pla137 con137 fld137_0 fld137_1 fld137_2 fld137_3 lay138 zer138 pla138 con138 fld138_0 fld138_1 fld138_2 fld138_3 lay139 zer139 eln139 arr139 pla139 con139 lay140 zer140 pla140 con140 lay141 zer141 pla141 con141 lay142 zer142 con142 lay143 zer143 zrp143 con143 int143 lay144 zer144 zrp144 con144 int144 lay145 zer145 zrp145 con145 int145 lay146 zer146 con146 lay147 zer147 ptr147 zrp147 con147 lay148 zer148 zrp148 con148 int148 lay149 zer149 zrp149 con149 int149 lay150 zer150 pla150 con150 fld150_0 fld150_1 fld150_2 fld150_3 fld150_4 fld150_5 fld150_6 fld150_7 fld150_8 fld150_9 fld150_10 lay151 zer151 pla151 con151 fld151_0 fld151_1 fld151_2 fld151_3 fld151_4 fld151_5 fld151_6 fld151_7 fld151_8 fld151_9 fld151_10 lay152 zer152 zrp152 con152
end Go.Proofs.YtiacandbafjlfaaGreatDoor.Lift

namespace Go.Proofs.YtiacandbafjlfaaGreatDoor.Lift
set_option linter.unusedSimpArgs false
set_option linter.unusedVariables false
set_option linter.unnecessarySimpa false
open Go
variable {gl : Globs}

theorem ref01_copy_ok (t : Ty) : Con1 Tryz.prog gl 75 [t.dv] [] t.dv [] := by
  induction t using Ty.ind with
  | h t ih =>
  refine t_in Tryz.func75 ?_
  intro X hP hgl hf hfn hn hR hids hfit
  have htf : t.fit := (Ty.dv_fit t).1 (hfit _ (by simp))
  have hlen : t.args.length ≤ 2147483648 := ((Ty.fit_eq t).1 htf).2.1
  refine t_rg0 ?_
  refine t_rg0 ?_
  refine t_rg0 ?_
  refine t_a ?_
  refine W_sub [(1003, 0)] ?_ ?_ ?_ (W_list t.args (fun done rest => [(.slot 2, .one (.loc 2 0)), (.loc 2, .row [.v (dint 0), .own 0 []]), (.slot 1, .one (.loc 1 0)), (.loc 1, .row [.v (dint t.kind), .v (.sl (t.args.map Ty.cells))]),
      (.slot 3, .one (.own 1003 (done.map Ty.cells))), (.tok 1003, .tk 2 done.length), (.slot 7, .one (.v (.sl (t.args.map Ty.cells)))), (.slot 8, .one (.v (dint t.args.length))), (.slot 9, .one (.v (dint done.length)))]) ?_ ?_)
  · simp [go_sem]
  · simp [go_sem]
  · simp [go_sem]
  · intro done x rest hL hg hnext
    have hlt : done.length < t.args.length := by rw [hL]; simp
    refine t_rg0 ?_
    refine t_yes ?_
    refine t_rg @hg ?_
    refine t_a ?_
    first | refine W_reg [] fun K hK => ?_ | refine W_regd (by rw [hP]; exact mixed) [] fun K hK => ?_
    refine t_s0 ?_
    refine t_c trivial (ih x (List.mem_of_getElem? hg)) ?_
    refine t_e ?_
    clear hK K
    refine t_rg0 ?_
    refine t_b ?_
    refine t_sub [(1003, 17)] trivial hnext
  · refine t_rg0 ?_
    refine t_no ?_
    refine t_rg0 ?_
    refine t_r ?_
    simp [go_sem, hP, hgl, hn] <;> (try omega)

theorem ref01_same_ok (a b : Ty) : Con1 Tryz.prog gl 16 [a.dv, b.dv] [] (dbool (a.same b)) [] := by
  induction a using Ty.ind generalizing b with
  | h a ih =>
  refine t_in Tryz.func16 ?_
  intro X hP hgl hf hfn hn hR hids hfit
  have hfa : a.fit := (Ty.dv_fit a).1 (hfit _ (by simp))
  have hfb : b.fit := (Ty.dv_fit b).1 (hfit _ (by simp))
  have hla : a.args.length ≤ 2147483648 := ((Ty.fit_eq a).1 hfa).2.1
  have hlb : b.args.length ≤ 2147483648 := ((Ty.fit_eq b).1 hfb).2.1
  refine t_rg0 ?_
  by_cases hk : a.kind = b.kind
  · refine t_rg @hk ?_
    by_cases hl : a.args.length = b.args.length
    · refine t_a ?_
      refine W_cond rfl ?_ ?_
      · intro h; simp [hl] at h
      intro _
      refine t_rg0 ?_
      refine t_a ?_
      refine W_sub [] ?_ ?_ ?_ (W_upto a.args.length (fun i => ∀ (j : Nat) (x y : Ty), j < i → a.args[j]? = some x → b.args[j]? = some y → x.same y = true)
        (fun i => [(.slot 2, .one (.loc 2 0)), (.loc 2, .row [.v (dint a.kind), .v (.sl (a.args.map Ty.cells))]), (.slot 3, .one (.loc 3 0)), (.loc 3, .row [.v (dint b.kind), .v (.sl (b.args.map Ty.cells))]), (.slot 22, .one (.v (dint a.args.length))), (.slot 23, .one (.v (dint i)))]) (by intro j x y h; omega) ?_ ?_)
      · simp [go_sem]
      · simp [go_sem, hk, hl]
      · simp [go_sem]
      · intro i hi hI hnext
        obtain ⟨x, hx⟩ : ∃ x, a.args[i]? = some x := ⟨_, List.getElem?_eq_getElem hi⟩
        obtain ⟨y, hy⟩ : ∃ y, b.args[i]? = some y := ⟨_, List.getElem?_eq_getElem (by omega)⟩
        refine t_rg0 ?_
        refine t_yes ?_
        refine t_rg0 ?_
        refine t_a ?_
        first | refine W_reg [] fun K hK => ?_ | refine W_regd (by rw [hP]; exact mixed) [] fun K hK => ?_
        refine t_s (j2 @hx @hy) ?_
        refine t_c trivial (ih x (List.mem_of_getElem? hx) y) ?_
        refine t_e ?_
        clear hK K
        by_cases hs : x.same y = true
        · refine t_a ?_
          refine W_cond rfl ?_ ?_
          · intro h; simp [hs] at h
          intro _
          refine t_rg0 ?_
          refine t_b ?_
          refine t_sub [] trivial (hnext ?_)
          intro j x' y' hj hx' hy'
          by_cases hji : j = i
          · subst hji; rw [hx] at hx'; rw [hy] at hy'; cases hx'; cases hy'; exact hs
          · exact hI j x' y' (by omega) hx' hy'
        · refine t_a ?_
          refine W_cond rfl ?_ ?_
          rotate_left
          · intro h; simp [hs] at h
          intro _
          refine t_rg0 ?_
          refine t_r ?_
          simp [go_sem, hP, hgl, hn] <;> (try omega)
          refine Bool.eq_false_iff.2 ?_
          intro h
          rw [Ty.same_eq, Bool.and_eq_true, Ty.sames_iff] at h
          exact hs (h.2.2 i x y hx hy)
      · intro hI
        refine t_rg0 ?_
        refine t_no ?_
        refine t_rg0 ?_
        refine t_r ?_
        simp [go_sem, hP, hgl, hn] <;> (try omega)
        rw [Ty.same_eq, Bool.and_eq_true, Ty.sames_iff]
        exact ⟨by simp [hk], hl, fun i x y hx hy => hI i x y (List.getElem?_eq_some_iff.1 hx).1 hx hy⟩
    · refine t_a ?_
      refine W_cond rfl ?_ ?_
      rotate_left
      · intro h; simp at h; omega
      intro _
      refine t_rg0 ?_
      refine t_r ?_
      simp [go_sem, hP, hgl, hn] <;> (try omega)
      refine Bool.eq_false_iff.2 ?_
      intro h
      rw [Ty.same_eq, Bool.and_eq_true, Ty.sames_iff] at h
      exact hl h.2.1
  · refine t_rg @hk ?_
    refine t_a ?_
    refine W_cond rfl ?_ ?_
    rotate_left
    · intro h; simp at h
    intro _
    refine t_rg0 ?_
    refine t_r ?_
    simp [go_sem, hP, hgl, hn] <;> (try omega)
    simp [Ty.same_eq, hk]

theorem ref01_nat_ok : Con1 Tryz.prog gl 35 [] [] (Ty.mk 1 []).dv [] := by
  refine t_in Tryz.func35 ?_
  intro X hP hgl hf hfn hn hR hids hfit
  refine t_rg0 ?_
  refine t_rg0 ?_
  refine t_r ?_
  simp [go_sem, hP, hgl, hn] <;> (try omega)
  all_goals exact t_f

theorem ref01_list_ok : Con1 Tryz.prog gl 36 [] [] (Ty.mk 2 []).dv [] := by
  refine t_in Tryz.func36 ?_
  intro X hP hgl hf hfn hn hR hids hfit
  refine t_rg0 ?_
  refine t_rg0 ?_
  refine t_r ?_
  simp [go_sem, hP, hgl, hn] <;> (try omega)
  all_goals exact t_f

theorem ref01_unit_ok : Con1 Tryz.prog gl 37 [] [] (Ty.mk 5 []).dv [] := by
  refine t_in Tryz.func37 ?_
  intro X hP hgl hf hfn hn hR hids hfit
  refine t_rg0 ?_
  refine t_rg0 ?_
  refine t_r ?_
  simp [go_sem, hP, hgl, hn] <;> (try omega)
  all_goals exact t_f

theorem ref01_two_ok (a b : Ty) : Con1 Tryz.prog gl 38 [a.dv, b.dv] [] (Ty.mk 3 [a, b]).dv [] := by
  refine t_in Tryz.func38 ?_
  intro X hP hgl hf hfn hn hR hids hfit
  refine t_rg0 ?_
  refine t_a ?_
  first | refine W_reg [] fun K hK => ?_ | refine W_regd (by rw [hP]; exact mixed) [] fun K hK => ?_
  refine t_s0 ?_
  refine t_c trivial (ref01_copy_ok a) ?_
  refine t_c trivial (ref01_copy_ok b) ?_
  refine t_e ?_
  clear hK K
  refine t_r ?_
  simp [go_sem, hP, hgl, hn] <;> (try omega)
  all_goals exact t_f
end Go.Proofs.YtiacandbafjlfaaGreatDoor.Lift

namespace Go.Proofs.YtiacandbafjlfaaGreatDoor.Lift
set_option linter.unusedSimpArgs false
set_option linter.unusedVariables false
set_option linter.unnecessarySimpa false
open Go
variable {gl : Globs}

theorem Tm.fit_len {t : Tm} (h : t.dv.fit) : t.args.length ≤ 2147483648 := ((Tm.fit_eq t).1 ((Tm.dv_fit t).1 h)).2.2.2.1
theorem sl_len {l : List (List DV)} (h : DV.fit (.sl l)) : l.length ≤ 2147483648 := by simp [DV.fit, BIG] at h; exact h.1

theorem ref02_copy_ok (t : Tm) : Con1 Tryz.prog gl 99 [t.dv] [] t.dv [] := by
  induction t using Tm.ind with
  | h t ih =>
  refine t_in Tryz.func99 ?_
  intro X hP hgl hf hfn hn hR hids hfit
  have hlen := Tm.fit_len (hfit t.dv (by simp))
  refine t_rg0 ?_
  refine t_rg0 ?_
  refine t_rg0 ?_
  refine t_a ?_
  refine t_sub [(1003, 0)] trivial (W_list (t.args) (fun done rest => [(.slot 9, .one (.v (dint done.length))), (.slot 8, .one (.v (dint t.args.length))), (.slot 7, .one (.v (.sl (t.args.map Tm.cells)))), (.slot 3, .one (.own 1003 (done.map Tm.cells))), (.tok 1003, .tk 5 done.length), (.loc 2, .row ([.v (dint 0), .v (dint 0), .v (dint 0), .own 0 [], .own 0 []])), (.slot 2, .one (.loc 2 0)), (.loc 1, .row ([.v (dint t.kind), .v (dint t.index), .v (dint t.type.kind), .v (.sl (t.type.args.map Ty.cells)), .v (.sl (t.args.map Tm.cells))])), (.slot 1, .one (.loc 1 0))]) ?_ ?_)
  · intro done x rest hL hg hnext
    have hlt : done.length < t.args.length := by rw [hL]; simp
    refine t_rg0 ?_
    refine t_yes ?_
    refine t_rg @hg ?_
    refine t_a ?_
    first | refine W_reg [] fun K hK => ?_ | refine W_regd (by rw [hP]; exact mixed) [] fun K hK => ?_
    refine t_s0 ?_
    refine t_c trivial (ih x (List.mem_of_getElem? hg)) ?_
    refine t_e ?_
    clear hK K
    refine t_rg0 ?_
    refine t_b ?_
    refine t_sub [(1003, 17)] trivial hnext
  · refine t_rg0 ?_
    refine t_no ?_
    refine t_a ?_
    first | refine W_reg [] fun K hK => ?_ | refine W_regd (by rw [hP]; exact mixed) [] fun K hK => ?_
    refine t_s0 ?_
    refine t_c trivial (ref01_copy_ok t.type) ?_
    refine t_e ?_
    clear hK K
    refine t_r ?_
    simp [go_sem, hP, hgl, hn] <;> (try omega)

/-- the number of nodes -/
def Tm.count : Tm → Nat
  | .mk _ _ _ l => 1 + counts l
where
  counts : List Tm → Nat
    | [] => 0
    | a :: r => a.count + counts r
theorem Tm.count_eq (t : Tm) : t.count = 1 + Tm.count.counts t.args := by cases t; rfl
theorem Tm.counts_append (l m : List Tm) : Tm.count.counts (l ++ m) = Tm.count.counts l + Tm.count.counts m := by
  induction l with
  | nil => simp [Tm.count.counts]
  | cons a r ih => simp [Tm.count.counts, ih]; omega

theorem ref02_count_ok (t : Tm) (hc : t.count ≤ 2147483648) : Con1 Tryz.prog gl 90 [t.dv] [] (dint t.count) [] := by
  induction t using Tm.ind with
  | h t ih =>
  refine t_in Tryz.func90 ?_
  intro X hP hgl hf hfn hn hR hids hfit
  have hlen := Tm.fit_len (hfit t.dv (by simp))
  rw [Tm.count_eq] at hc
  refine t_rg0 ?_
  refine t_rg0 ?_
  refine t_rg0 ?_
  refine t_a ?_
  refine W_sub [] (by simp [go_sem]) (by simp [go_sem, Tm.count.counts] <;> omega) (by simp [go_sem]) (W_list (t.args) (fun done rest => [(.slot 9, .one (.v (dint done.length))), (.slot 8, .one (.v (dint t.args.length))), (.slot 7, .one (.v (.sl (t.args.map Tm.cells)))), (.slot 3, .one (.v (dint (1 + Tm.count.counts done : Nat))))]) ?_ ?_)
  · intro done x rest hL hg hnext
    have hlt : done.length < t.args.length := by rw [hL]; simp
    have hcx : Tm.count.counts t.args = Tm.count.counts done + (x.count + Tm.count.counts rest) := by rw [hL, Tm.counts_append]; rfl
    refine t_rg0 ?_
    refine t_yes ?_
    refine t_rg @hg ?_
    refine t_a ?_
    first | refine W_reg [] fun K hK => ?_ | refine W_regd (by rw [hP]; exact mixed) [] fun K hK => ?_
    refine t_s0 ?_
    refine t_c trivial (ih x (List.mem_of_getElem? hg) (by omega)) ?_
    refine t_e ?_
    clear hK K
    refine t_rg0 ?_
    repeat (first | refine W_inBlock ?_ | refine W_skip ?_ | refine W_label ?_ | refine W_exit rfl ?_)
    refine W_sub [] (by simp [go_sem]) (by simp [go_sem, Tm.counts_append, Tm.count.counts] <;> omega) (by simp [go_sem]) hnext
  · refine t_rg0 ?_
    refine t_no ?_
    refine t_rg0 ?_
    refine t_r ?_
    simp [go_sem, hP, hgl, hn, Tm.count_eq] <;> (try omega)

theorem ref02_n_ok (k : Int) (l : List Tm) : Con1 Tryz.prog gl 56 [dint k, .sl (l.map Tm.cells)] [] (Tm.mk k 0 (Ty.mk 0 []) l).dv [] := by
  refine t_in Tryz.func56 ?_
  intro X hP hgl hf hfn hn hR hids hfit
  have hlen : l.length ≤ 2147483648 := by simpa using sl_len (hfit (.sl (l.map Tm.cells)) (by simp))
  refine t_rg0 ?_
  refine t_rg0 ?_
  refine t_rg0 ?_
  refine t_a ?_
  refine t_sub [(1005, 0)] trivial (W_list (l) (fun done rest => [(.slot 10, .one (.v (dint done.length))), (.slot 9, .one (.v (dint l.length))), (.slot 8, .one (.v (.sl (l.map Tm.cells)))), (.slot 5, .one (.own 1005 (done.map Tm.cells))), (.tok 1005, .tk 5 done.length), (.loc 4, .row ([.v (dint 0), .v (dint 0), .v (dint 0), .own 0 [], .own 0 []])), (.slot 4, .one (.loc 4 0)), (.slot 0, .one (.v (dint k)))]) ?_ ?_)
  · intro done x rest hL hg hnext
    have hlt : done.length < l.length := by rw [hL]; simp
    refine t_rg0 ?_
    refine t_yes ?_
    refine t_rg @hg ?_
    refine t_a ?_
    first | refine W_reg [] fun K hK => ?_ | refine W_regd (by rw [hP]; exact mixed) [] fun K hK => ?_
    refine t_s0 ?_
    refine t_c trivial (ref02_copy_ok x) ?_
    refine t_e ?_
    clear hK K
    refine t_rg0 ?_
    refine t_b ?_
    refine t_sub [(1005, 18)] trivial hnext
  · refine t_rg0 ?_
    refine t_no ?_
    refine t_rg0 ?_
    refine t_r ?_
    simp [go_sem, hP, hgl, hn] <;> (try omega)
    all_goals exact t_f

theorem ref02_same_ok (a b : Tm) : Con1 Tryz.prog gl 20 [a.dv, b.dv] [] (dbool (a.same b)) [] := by
  induction a using Tm.ind generalizing b with
  | h a ih =>
  refine t_in Tryz.func20 ?_
  intro X hP hgl hf hfn hn hR hids hfit
  have hla := Tm.fit_len (hfit a.dv (by simp))
  have hlb := Tm.fit_len (hfit b.dv (by simp))
  refine t_rg0 ?_
  by_cases hk : a.kind = b.kind
  · by_cases hi : a.index = b.index
    · refine t_a ?_
      first | refine W_reg [] fun K hK => ?_ | refine W_regd (by rw [hP]; exact mixed) [] fun K hK => ?_
      refine t_s (j2 @hk @hi) ?_
      refine t_c trivial (ref01_same_ok a.type b.type) ?_
      by_cases ht : a.type.same b.type = true
      · simp [go_sem, hP, hn, ht]
        refine t_e ?_
        clear hK K
        by_cases hl : a.args.length = b.args.length
        · refine t_a ?_
          refine W_cond rfl ?_ ?_
          · intro h; simp [hl] at h
          intro _
          refine t_rg0 ?_
          refine t_a ?_
          refine t_sub [] (j2 @hk (j2 @hi @hl)) (W_upto (a.args.length) (fun i => ∀ (j : Nat) (x y : Tm), j < i → a.args[j]? = some x → b.args[j]? = some y → x.same y = true) (fun i => [(.slot 38, .one (.v (dint i))), (.slot 37, .one (.v (dint a.args.length))), (.slot 3, .one (.loc 3 0)), (.loc 3, .row ([.v (dint b.kind), .v (dint b.index), .v (dint b.type.kind), .v (.sl (b.type.args.map Ty.cells)), .v (.sl (b.args.map Tm.cells))])), (.slot 2, .one (.loc 2 0)), (.loc 2, .row ([.v (dint a.kind), .v (dint a.index), .v (dint a.type.kind), .v (.sl (a.type.args.map Ty.cells)), .v (.sl (a.args.map Tm.cells))]))]) (by intro j x y h; omega) ?_ ?_)
          · intro i hlt hI hnext
            obtain ⟨x, hx⟩ : ∃ x, a.args[i]? = some x := ⟨_, List.getElem?_eq_getElem hlt⟩
            obtain ⟨y, hy⟩ : ∃ y, b.args[i]? = some y := ⟨_, List.getElem?_eq_getElem (by omega)⟩
            refine t_rg0 ?_
            refine t_yes ?_
            refine t_rg0 ?_
            refine t_a ?_
            first | refine W_reg [] fun K hK => ?_ | refine W_regd (by rw [hP]; exact mixed) [] fun K hK => ?_
            refine t_s (j2 @hx @hy) ?_
            refine t_c trivial (ih x (List.mem_of_getElem? hx) y) ?_
            refine t_e ?_
            clear hK K
            by_cases hs : x.same y = true
            · refine t_a ?_
              refine W_cond rfl ?_ ?_
              · intro h; simp [hs] at h
              intro _
              refine t_rg0 ?_
              refine t_b ?_
              refine t_sub [] trivial (hnext ?_)
              intro j x' y' hj hx' hy'
              by_cases hji : j = i
              · subst hji; rw [hx] at hx'; rw [hy] at hy'; cases hx'; cases hy'; exact hs
              · exact hI j x' y' (by omega) hx' hy'
            · refine t_a ?_
              refine W_cond rfl ?_ ?_
              rotate_left
              · intro h; simp [hs] at h
              intro _
              refine t_rg0 ?_
              refine t_r ?_
              simp [go_sem, hP, hgl, hn] <;> (try omega)
              refine Bool.eq_false_iff.2 ?_
              intro h
              rw [Tm.same_eq] at h
              simp only [Bool.and_eq_true, Tm.sames_iff] at h
              exact hs (h.2.2 i x y hx hy)
          · intro hI
            refine t_rg0 ?_
            refine t_no ?_
            refine t_rg0 ?_
            refine t_r ?_
            simp [go_sem, hP, hgl, hn] <;> (try omega)
            rw [Tm.same_eq]
            simp only [Bool.and_eq_true, Tm.sames_iff]
            exact ⟨⟨⟨by simp [hk], by simp [hi]⟩, ht⟩, hl, fun i x y hx hy => hI i x y (List.getElem?_eq_some_iff.1 hx).1 hx hy⟩
        · refine t_a ?_
          refine W_cond rfl ?_ ?_
          rotate_left
          · intro h; simp at h; omega
          intro _
          refine t_rg0 ?_
          refine t_r ?_
          simp [go_sem, hP, hgl, hn] <;> (try omega)
          refine Bool.eq_false_iff.2 ?_
          intro h
          rw [Tm.same_eq] at h
          simp only [Bool.and_eq_true, Tm.sames_iff] at h
          exact hl h.2.1
      · simp [go_sem, hP, hn, ht]
        refine t_e ?_
        clear hK K
        refine t_a ?_
        refine W_cond rfl ?_ ?_
        rotate_left
        · intro h; simp at h
        intro _
        refine t_rg0 ?_
        refine t_r ?_
        simp [go_sem, hP, hgl, hn] <;> (try omega)
        simp [Tm.same_eq, ht]
    · refine t_rg (j2 @hk @hi) ?_
      refine t_a ?_
      refine W_cond rfl ?_ ?_
      rotate_left
      · intro h; simp at h
      intro _
      refine t_rg0 ?_
      refine t_r ?_
      simp [go_sem, hP, hgl, hn] <;> (try omega)
      simp [Tm.same_eq, hi]
  · refine t_rg @hk ?_
    refine t_a ?_
    refine W_cond rfl ?_ ?_
    rotate_left
    · intro h; simp at h
    intro _
    refine t_rg0 ?_
    refine t_r ?_
    simp [go_sem, hP, hgl, hn] <;> (try omega)
    simp [Tm.same_eq, hk]
end Go.Proofs.YtiacandbafjlfaaGreatDoor.Lift

namespace Go.Proofs.YtiacandbafjlfaaGreatDoor.Lift
set_option linter.unusedSimpArgs false
set_option linter.unusedVariables false
set_option linter.unnecessarySimpa false
open Go
variable {gl : Globs}

abbrev ptr (b : Nat) : DV := .prim (.pointer (some ⟨b, 0, none⟩))
/-- a deck of numbers, as an object's cells -/
abbrev deck (l : List Int) (p : Nat) : List DV := [.sl (ints l), dint p]

def modz (n k : Int) : Int := (n.tmod k + k).tmod k
theorem modz_bd (n k : Int) (h : 1 ≤ k) : 0 ≤ modz n k ∧ modz n k < k ∧ -k < n.tmod k ∧ n.tmod k < k := by
  have h1 : -k < n.tmod k := by
    have := Int.lt_tmod_of_pos n (show 0 < k by omega); omega
  have h2 : n.tmod k < k := Int.tmod_lt_of_pos n (by omega)
  refine ⟨?_, Int.tmod_lt_of_pos _ (by omega), h1, h2⟩
  exact Int.tmod_nonneg _ (by omega)

theorem mod_ok (n k : Int) (h1 : 1 ≤ k) (h2 : k ≤ 2147483648) : Con1 Tryz.prog gl 74 [dint n, dint k] [] (dint (modz n k)) [] := by
  refine t_in Tryz.func74 ?_
  intro X hP hgl hf hfn hn hR hids hfit
  have hb := modz_bd n k h1
  unfold modz at hb
  refine t_rg0 ?_
  refine t_a ?_
  first | refine W_reg [] fun K hK => ?_ | refine W_regd (by rw [hP]; exact mixed) [] fun K hK => ?_
  refine t_s0 ?_
  have hk0 : ¬ k = 0 := by omega
  refine ⟨⟨hk0, by omega⟩, ?_⟩
  refine ⟨by omega, ⟨hk0, by omega⟩, ?_⟩
  refine t_e ?_
  clear hK K
  refine t_r ?_
  simp [go_sem, hP, hgl, hn, modz] <;> (try omega)

theorem few_ok (l : List Int) : Con1 Tryz.prog gl 5 [.sl (ints l)] [] (dbool (decide (l.length ≤ 500))) [] := by
  refine t_in Tryz.func5 ?_
  intro X hP hgl hf hfn hn hR hids hfit
  refine t_rg0 ?_
  refine t_rg0 ?_
  refine t_r ?_
  simp [go_sem, hP, hgl, hn] <;> (try omega)

theorem new_ok (l : List Int) : Con Tryz.prog gl 11 [.sl (ints l)] [] fun r φ => ∃ b, r = ptr b ∧ φ = [(b, deck l 0)] := by
  refine t_in Tryz.func11 ?_
  intro X hP hgl hf hfn hn hR hids hfit
  refine t_rg0 ?_
  refine t_rg0 ?_
  refine W_expose 5 (by simp [go_sem]; rfl) ?_
  intro b hb
  simp [go_sem]
  refine W_retR hP hf hfn (ptr b) [(b, deck l 0)] (by simp [go_sem, hP, hgl, hn]) (by simp [go_sem]) (by simp) (by rw [hR.1]; exact ⟨b, rfl, rfl⟩) hR.2

/-- the next number below n -/
def nextD (l : List Int) (p : Nat) (n : Int) : Int × Nat :=
  if n < 1 then (0, p) else match l[p]? with
    | some x => (modz x n, p + 1)
    | none => (0, p)

theorem next_ok (b : Nat) (l : List Int) (p : Nat) (n : Int) (hn2 : n ≤ 2147483648) (hp : p ≤ 2147483648) :
    Con1 Tryz.prog gl 34 [ptr b, dint n] [(b, deck l p)] (dint (nextD l p n).1) [(b, deck l (nextD l p n).2)] := by
  refine t_in Tryz.func34 ?_
  intro X hP hgl hf hfn hn hR hids hfit
  refine t_rg0 ?_
  by_cases hlt : n < 1
  · refine t_rg @hlt ?_
    refine t_a ?_
    refine W_cond rfl ?_ ?_
    rotate_left
    · intro h; simp at h
    intro _
    refine t_rg0 ?_
    repeat (first | refine W_seq ?_ | refine W_skip ?_ | refine W_block ?_ | refine W_inBlock ?_ | refine W_label ?_ | refine W_exit rfl ?_)
    first | refine W_retR hP hf hfn _ ([(b, deck l p)]) (by first | (simp [go_sem, hP, hgl, hn, nextD, hlt]; done) | (simp [go_sem, hP, hgl, hn, nextD, hlt]; rfl)) (by simp [go_sem, hP, hgl, hn, nextD, hlt]) (by simp) ?_ hR.2 | refine W_endR hP hf hfn _ ([(b, deck l p)]) (by first | (simp [go_sem, hP, hgl, hn, nextD, hlt]; done) | (simp [go_sem, hP, hgl, hn, nextD, hlt]; rfl)) (by simp [go_sem, hP, hgl, hn, nextD, hlt]) (by simp) ?_ hR.2
    rw [hR.1]
    refine ⟨?_, by simp [nextD, hlt]⟩
    try simp [nextD, hlt]
    try all_goals (simp [Ty.dv, Ty.cells_eq, Ty.kind_mk, Ty.args_mk, Tm.dv, Tm.cells_eq, Tm.kind_mk, Tm.index_mk, Tm.type_mk, Tm.args_mk, Val.dv, Val.cells_eq, Val.kind_mk, Val.num_mk, Val.list_mk, Val.args_mk, ints])
  · by_cases hle : l.length ≤ p
    · refine t_rg (j2 @hlt @hle) ?_
      refine t_a ?_
      refine W_cond rfl ?_ ?_
      rotate_left
      · intro h; simp [hle] at h
      intro _
      refine t_rg0 ?_
      have hg : l[p]? = none := List.getElem?_eq_none hle
      repeat (first | refine W_seq ?_ | refine W_skip ?_ | refine W_block ?_ | refine W_inBlock ?_ | refine W_label ?_ | refine W_exit rfl ?_)
      first | refine W_retR hP hf hfn _ ([(b, deck l p)]) (by first | (simp [go_sem, hP, hgl, hn, nextD, hlt, hg]; done) | (simp [go_sem, hP, hgl, hn, nextD, hlt, hg]; rfl)) (by simp [go_sem, hP, hgl, hn, nextD, hlt, hg]) (by simp) ?_ hR.2 | refine W_endR hP hf hfn _ ([(b, deck l p)]) (by first | (simp [go_sem, hP, hgl, hn, nextD, hlt, hg]; done) | (simp [go_sem, hP, hgl, hn, nextD, hlt, hg]; rfl)) (by simp [go_sem, hP, hgl, hn, nextD, hlt, hg]) (by simp) ?_ hR.2
      rw [hR.1]
      refine ⟨?_, by simp [nextD, hlt, hg]⟩
      try simp [nextD, hlt, hg]
      try all_goals (simp [Ty.dv, Ty.cells_eq, Ty.kind_mk, Ty.args_mk, Tm.dv, Tm.cells_eq, Tm.kind_mk, Tm.index_mk, Tm.type_mk, Tm.args_mk, Val.dv, Val.cells_eq, Val.kind_mk, Val.num_mk, Val.list_mk, Val.args_mk, ints])
    · refine t_rg (j2 @hlt @hle) ?_
      refine t_a ?_
      refine W_cond rfl ?_ ?_
      · intro h; simp [hle] at h
      intro _
      obtain ⟨x, hx⟩ : ∃ x, l[p]? = some x := ⟨_, List.getElem?_eq_getElem (by omega)⟩
      have hg := ints_get hx
      refine t_rg @hg ?_
      refine t_rg0 ?_
      refine t_a ?_
      first | refine W_reg [] fun K hK => ?_ | refine W_regd (by rw [hP]; exact mixed) [] fun K hK => ?_
      refine t_s0 ?_
      refine t_c trivial (mod_ok x n (by omega) hn2) ?_
      refine t_e ?_
      clear hK K
      repeat (first | refine W_seq ?_ | refine W_skip ?_ | refine W_block ?_ | refine W_inBlock ?_ | refine W_label ?_ | refine W_exit rfl ?_)
      first | refine W_retR hP hf hfn _ ([(b, deck l (p + 1))]) (by first | (simp [go_sem, hP, hgl, hn, nextD, hlt, hx]; done) | (simp [go_sem, hP, hgl, hn, nextD, hlt, hx]; rfl)) (by simp [go_sem, hP, hgl, hn, nextD, hlt, hx]) (by simp) ?_ hR.2 | refine W_endR hP hf hfn _ ([(b, deck l (p + 1))]) (by first | (simp [go_sem, hP, hgl, hn, nextD, hlt, hx]; done) | (simp [go_sem, hP, hgl, hn, nextD, hlt, hx]; rfl)) (by simp [go_sem, hP, hgl, hn, nextD, hlt, hx]) (by simp) ?_ hR.2
      rw [hR.1]
      refine ⟨?_, by simp [nextD, hlt, hx]⟩
      try simp [nextD, hlt, hx]
      try all_goals (simp [Ty.dv, Ty.cells_eq, Ty.kind_mk, Ty.args_mk, Tm.dv, Tm.cells_eq, Tm.kind_mk, Tm.index_mk, Tm.type_mk, Tm.args_mk, Val.dv, Val.cells_eq, Val.kind_mk, Val.num_mk, Val.list_mk, Val.args_mk, ints])
end Go.Proofs.YtiacandbafjlfaaGreatDoor.Lift

namespace Go.Proofs.YtiacandbafjlfaaGreatDoor.Lift
set_option linter.unusedSimpArgs false
set_option linter.unusedVariables false
set_option linter.unnecessarySimpa false
open Go
variable {gl : Globs}

theorem nextD_le {l : List Int} {p : Nat} {n : Int} (h : p ≤ l.length) : (nextD l p n).2 ≤ l.length := by
  unfold nextD
  split
  · exact h
  · split
    · rename_i x hx
      have := (List.getElem?_eq_some_iff.1 hx).1
      simp only; omega
    · exact h

theorem nextD_bd {l : List Int} {p : Nat} {n : Int} (h : 1 ≤ n) : 0 ≤ (nextD l p n).1 ∧ (nextD l p n).1 < n := by
  unfold nextD
  rw [if_neg (by omega)]
  split
  · rename_i x hx
    have := modz_bd x n h
    exact ⟨this.1, this.2.1⟩
  · exact ⟨by simp, by simp; omega⟩

def plainD (l : List Int) (p : Nat) : Ty × Nat :=
  let k := (nextD l p 6).1
  (if k = 0 ∨ k = 1 then Ty.mk 1 [] else if k = 2 then Ty.mk 2 [] else if k = 3 then Ty.mk 5 [] else if k = 4 then Ty.mk 3 [Ty.mk 1 [], Ty.mk 2 []] else Ty.mk 3 [Ty.mk 1 [], Ty.mk 1 []], (nextD l p 6).2)

theorem plain_ok (b : Nat) (l : List Int) (p : Nat) (hl : l.length ≤ 500) (hp : p ≤ l.length) :
    Con1 Tryz.prog gl 24 [ptr b] [(b, deck l p)] (plainD l p).1.dv [(b, deck l (plainD l p).2)] := by
  refine t_in Tryz.func24 ?_
  intro X hP hgl hf hfn hn hR hids hfit
  have hp1 := nextD_le (n := 6) hp
  refine t_rg0 ?_
  refine t_a ?_
  first | refine W_reg [] fun K hK => ?_ | refine W_regd (by rw [hP]; exact mixed) [] fun K hK => ?_
  refine t_s0 ?_
  refine t_c trivial (next_ok b l p 6 (by decide) (by omega)) ?_
  refine t_e ?_
  clear hK K
  have hkb := nextD_bd (l := l) (p := p) (n := 6) (by decide)
  generalize hd : nextD l p 6 = d at *
  obtain ⟨k, q⟩ := d
  by_cases h0 : k = 0
  · refine t_rg @h0 ?_
    refine t_a ?_
    refine W_cond rfl ?_ ?_
    rotate_left
    · intro h; simp at h
    intro _
    refine t_a ?_
    refine W_cond rfl ?_ ?_
    rotate_left
    · intro h; simp at h
    intro _
    refine t_a ?_
    first | refine W_reg [] fun K hK => ?_ | refine W_regd (by rw [hP]; exact mixed) [] fun K hK => ?_
    refine t_s0 ?_
    refine t_c trivial (ref01_nat_ok) ?_
    refine t_e ?_
    clear hK K
    repeat (first | refine W_seq ?_ | refine W_skip ?_ | refine W_block ?_ | refine W_inBlock ?_ | refine W_label ?_ | refine W_exit rfl ?_)
    first | refine W_retR hP hf hfn _ ([(b, deck l q)]) (by first | (simp [go_sem, hP, hgl, hn, plainD, hd, h0]; done) | (simp [go_sem, hP, hgl, hn, plainD, hd, h0]; rfl)) (by simp [go_sem, hP, hgl, hn, plainD, hd, h0]) (by simp) ?_ hR.2 | refine W_endR hP hf hfn _ ([(b, deck l q)]) (by first | (simp [go_sem, hP, hgl, hn, plainD, hd, h0]; done) | (simp [go_sem, hP, hgl, hn, plainD, hd, h0]; rfl)) (by simp [go_sem, hP, hgl, hn, plainD, hd, h0]) (by simp) ?_ hR.2
    rw [hR.1]
    refine ⟨?_, by simp [plainD, hd, h0]⟩
    try simp [plainD, hd, h0]
    try all_goals (simp [Ty.dv, Ty.cells_eq, Ty.kind_mk, Ty.args_mk, Tm.dv, Tm.cells_eq, Tm.kind_mk, Tm.index_mk, Tm.type_mk, Tm.args_mk, Val.dv, Val.cells_eq, Val.kind_mk, Val.num_mk, Val.list_mk, Val.args_mk, ints])
  by_cases h1 : k = 1
  · refine t_rg @h1 ?_
    refine t_a ?_
    refine W_cond rfl ?_ ?_
    · intro h; simp at h
    intro _
    refine t_rg @h1 ?_
    refine t_a ?_
    refine W_cond rfl ?_ ?_
    rotate_left
    · intro h; simp at h
    intro _
    refine t_a ?_
    first | refine W_reg [] fun K hK => ?_ | refine W_regd (by rw [hP]; exact mixed) [] fun K hK => ?_
    refine t_s0 ?_
    refine t_c trivial (ref01_nat_ok) ?_
    refine t_e ?_
    clear hK K
    repeat (first | refine W_seq ?_ | refine W_skip ?_ | refine W_block ?_ | refine W_inBlock ?_ | refine W_label ?_ | refine W_exit rfl ?_)
    first | refine W_retR hP hf hfn _ ([(b, deck l q)]) (by first | (simp [go_sem, hP, hgl, hn, plainD, hd, h1]; done) | (simp [go_sem, hP, hgl, hn, plainD, hd, h1]; rfl)) (by simp [go_sem, hP, hgl, hn, plainD, hd, h1]) (by simp) ?_ hR.2 | refine W_endR hP hf hfn _ ([(b, deck l q)]) (by first | (simp [go_sem, hP, hgl, hn, plainD, hd, h1]; done) | (simp [go_sem, hP, hgl, hn, plainD, hd, h1]; rfl)) (by simp [go_sem, hP, hgl, hn, plainD, hd, h1]) (by simp) ?_ hR.2
    rw [hR.1]
    refine ⟨?_, by simp [plainD, hd, h1]⟩
    try simp [plainD, hd, h1]
    try all_goals (simp [Ty.dv, Ty.cells_eq, Ty.kind_mk, Ty.args_mk, Tm.dv, Tm.cells_eq, Tm.kind_mk, Tm.index_mk, Tm.type_mk, Tm.args_mk, Val.dv, Val.cells_eq, Val.kind_mk, Val.num_mk, Val.list_mk, Val.args_mk, ints])
  by_cases h2 : k = 2
  · refine t_rg @h2 ?_
    refine t_a ?_
    refine W_cond rfl ?_ ?_
    · intro h; simp at h
    intro _
    refine t_rg @h2 ?_
    refine t_a ?_
    refine W_cond rfl ?_ ?_
    · intro h; simp at h
    intro _
    refine t_rg @h2 ?_
    refine t_a ?_
    refine W_cond rfl ?_ ?_
    rotate_left
    · intro h; simp at h
    intro _
    refine t_a ?_
    first | refine W_reg [] fun K hK => ?_ | refine W_regd (by rw [hP]; exact mixed) [] fun K hK => ?_
    refine t_s0 ?_
    refine t_c trivial (ref01_list_ok) ?_
    refine t_e ?_
    clear hK K
    repeat (first | refine W_seq ?_ | refine W_skip ?_ | refine W_block ?_ | refine W_inBlock ?_ | refine W_label ?_ | refine W_exit rfl ?_)
    first | refine W_retR hP hf hfn _ ([(b, deck l q)]) (by first | (simp [go_sem, hP, hgl, hn, plainD, hd, h2]; done) | (simp [go_sem, hP, hgl, hn, plainD, hd, h2]; rfl)) (by simp [go_sem, hP, hgl, hn, plainD, hd, h2]) (by simp) ?_ hR.2 | refine W_endR hP hf hfn _ ([(b, deck l q)]) (by first | (simp [go_sem, hP, hgl, hn, plainD, hd, h2]; done) | (simp [go_sem, hP, hgl, hn, plainD, hd, h2]; rfl)) (by simp [go_sem, hP, hgl, hn, plainD, hd, h2]) (by simp) ?_ hR.2
    rw [hR.1]
    refine ⟨?_, by simp [plainD, hd, h2]⟩
    try simp [plainD, hd, h2]
    try all_goals (simp [Ty.dv, Ty.cells_eq, Ty.kind_mk, Ty.args_mk, Tm.dv, Tm.cells_eq, Tm.kind_mk, Tm.index_mk, Tm.type_mk, Tm.args_mk, Val.dv, Val.cells_eq, Val.kind_mk, Val.num_mk, Val.list_mk, Val.args_mk, ints])
  by_cases h3 : k = 3
  · refine t_rg @h3 ?_
    refine t_a ?_
    refine W_cond rfl ?_ ?_
    · intro h; simp at h
    intro _
    refine t_rg @h3 ?_
    refine t_a ?_
    refine W_cond rfl ?_ ?_
    · intro h; simp at h
    intro _
    refine t_rg @h3 ?_
    refine t_a ?_
    refine W_cond rfl ?_ ?_
    · intro h; simp at h
    intro _
    refine t_rg @h3 ?_
    refine t_a ?_
    refine W_cond rfl ?_ ?_
    rotate_left
    · intro h; simp at h
    intro _
    refine t_a ?_
    first | refine W_reg [] fun K hK => ?_ | refine W_regd (by rw [hP]; exact mixed) [] fun K hK => ?_
    refine t_s0 ?_
    refine t_c trivial (ref01_unit_ok) ?_
    refine t_e ?_
    clear hK K
    repeat (first | refine W_seq ?_ | refine W_skip ?_ | refine W_block ?_ | refine W_inBlock ?_ | refine W_label ?_ | refine W_exit rfl ?_)
    first | refine W_retR hP hf hfn _ ([(b, deck l q)]) (by first | (simp [go_sem, hP, hgl, hn, plainD, hd, h3]; done) | (simp [go_sem, hP, hgl, hn, plainD, hd, h3]; rfl)) (by simp [go_sem, hP, hgl, hn, plainD, hd, h3]) (by simp) ?_ hR.2 | refine W_endR hP hf hfn _ ([(b, deck l q)]) (by first | (simp [go_sem, hP, hgl, hn, plainD, hd, h3]; done) | (simp [go_sem, hP, hgl, hn, plainD, hd, h3]; rfl)) (by simp [go_sem, hP, hgl, hn, plainD, hd, h3]) (by simp) ?_ hR.2
    rw [hR.1]
    refine ⟨?_, by simp [plainD, hd, h3]⟩
    try simp [plainD, hd, h3]
    try all_goals (simp [Ty.dv, Ty.cells_eq, Ty.kind_mk, Ty.args_mk, Tm.dv, Tm.cells_eq, Tm.kind_mk, Tm.index_mk, Tm.type_mk, Tm.args_mk, Val.dv, Val.cells_eq, Val.kind_mk, Val.num_mk, Val.list_mk, Val.args_mk, ints])
  by_cases h4 : k = 4
  · refine t_rg @h4 ?_
    refine t_a ?_
    refine W_cond rfl ?_ ?_
    · intro h; simp at h
    intro _
    refine t_rg @h4 ?_
    refine t_a ?_
    refine W_cond rfl ?_ ?_
    · intro h; simp at h
    intro _
    refine t_rg @h4 ?_
    refine t_a ?_
    refine W_cond rfl ?_ ?_
    · intro h; simp at h
    intro _
    refine t_rg @h4 ?_
    refine t_a ?_
    refine W_cond rfl ?_ ?_
    · intro h; simp at h
    intro _
    refine t_rg @h4 ?_
    refine t_a ?_
    refine W_cond rfl ?_ ?_
    rotate_left
    · intro h; simp at h
    intro _
    refine t_a ?_
    first | refine W_reg [] fun K hK => ?_ | refine W_regd (by rw [hP]; exact mixed) [] fun K hK => ?_
    refine t_s0 ?_
    refine t_c trivial (ref01_nat_ok) ?_
    refine t_c trivial (ref01_list_ok) ?_
    refine t_c trivial (ref01_two_ok (Ty.mk 1 []) (Ty.mk 2 [])) ?_
    refine t_e ?_
    clear hK K
    repeat (first | refine W_seq ?_ | refine W_skip ?_ | refine W_block ?_ | refine W_inBlock ?_ | refine W_label ?_ | refine W_exit rfl ?_)
    first | refine W_retR hP hf hfn _ ([(b, deck l q)]) (by first | (simp [go_sem, hP, hgl, hn, plainD, hd, h4]; done) | (simp [go_sem, hP, hgl, hn, plainD, hd, h4]; rfl)) (by simp [go_sem, hP, hgl, hn, plainD, hd, h4]) (by simp) ?_ hR.2 | refine W_endR hP hf hfn _ ([(b, deck l q)]) (by first | (simp [go_sem, hP, hgl, hn, plainD, hd, h4]; done) | (simp [go_sem, hP, hgl, hn, plainD, hd, h4]; rfl)) (by simp [go_sem, hP, hgl, hn, plainD, hd, h4]) (by simp) ?_ hR.2
    rw [hR.1]
    refine ⟨?_, by simp [plainD, hd, h4]⟩
    try simp [plainD, hd, h4]
    try all_goals (simp [Ty.dv, Ty.cells_eq, Ty.kind_mk, Ty.args_mk, Tm.dv, Tm.cells_eq, Tm.kind_mk, Tm.index_mk, Tm.type_mk, Tm.args_mk, Val.dv, Val.cells_eq, Val.kind_mk, Val.num_mk, Val.list_mk, Val.args_mk, ints])
  · have h5 : k = 5 := by simp at hkb; omega
    refine t_rg @h5 ?_
    refine t_a ?_
    refine W_cond rfl ?_ ?_
    · intro h; simp at h
    intro _
    refine t_rg @h5 ?_
    refine t_a ?_
    refine W_cond rfl ?_ ?_
    · intro h; simp at h
    intro _
    refine t_rg @h5 ?_
    refine t_a ?_
    refine W_cond rfl ?_ ?_
    · intro h; simp at h
    intro _
    refine t_rg @h5 ?_
    refine t_a ?_
    refine W_cond rfl ?_ ?_
    · intro h; simp at h
    intro _
    refine t_rg @h5 ?_
    refine t_a ?_
    refine W_cond rfl ?_ ?_
    · intro h; simp at h
    intro _
    refine t_a ?_
    first | refine W_reg [] fun K hK => ?_ | refine W_regd (by rw [hP]; exact mixed) [] fun K hK => ?_
    refine t_s0 ?_
    refine t_c trivial (ref01_nat_ok) ?_
    refine t_c trivial (ref01_nat_ok) ?_
    refine t_c trivial (ref01_two_ok (Ty.mk 1 []) (Ty.mk 1 [])) ?_
    refine t_e ?_
    clear hK K
    repeat (first | refine W_seq ?_ | refine W_skip ?_ | refine W_block ?_ | refine W_inBlock ?_ | refine W_label ?_ | refine W_exit rfl ?_)
    first | refine W_retR hP hf hfn _ ([(b, deck l q)]) (by first | (simp [go_sem, hP, hgl, hn, plainD, hd, h5]; done) | (simp [go_sem, hP, hgl, hn, plainD, hd, h5]; rfl)) (by simp [go_sem, hP, hgl, hn, plainD, hd, h5]) (by simp) ?_ hR.2 | refine W_endR hP hf hfn _ ([(b, deck l q)]) (by first | (simp [go_sem, hP, hgl, hn, plainD, hd, h5]; done) | (simp [go_sem, hP, hgl, hn, plainD, hd, h5]; rfl)) (by simp [go_sem, hP, hgl, hn, plainD, hd, h5]) (by simp) ?_ hR.2
    rw [hR.1]
    refine ⟨?_, by simp [plainD, hd, h5]⟩
    try simp [plainD, hd, h5]
    try all_goals (simp [Ty.dv, Ty.cells_eq, Ty.kind_mk, Ty.args_mk, Tm.dv, Tm.cells_eq, Tm.kind_mk, Tm.index_mk, Tm.type_mk, Tm.args_mk, Val.dv, Val.cells_eq, Val.kind_mk, Val.num_mk, Val.list_mk, Val.args_mk, ints])

/-- n numbers below 4 -/
def numsD (l : List Int) (p : Nat) : Nat → List Int × Nat
  | 0 => ([], p)
  | n + 1 => ((nextD l p 4).1 :: (numsD l (nextD l p 4).2 n).1, (numsD l (nextD l p 4).2 n).2)

def mkVal (l : List Int) : Ty → Nat → Val × Nat
  | .mk k ts, p =>
    if k = 1 then (Val.mk 1 (nextD l p 5).1 [] [], (nextD l p 5).2)
    else if k = 2 then (Val.mk 2 0 (numsD l (nextD l p 4).2 (nextD l p 4).1.toNat).1 [], (numsD l (nextD l p 4).2 (nextD l p 4).1.toNat).2)
    else if k = 3 then (Val.mk 3 0 [] (mkVals ts p).1, (mkVals ts p).2)
    else (Val.mk 4 0 [] [], p)
where
  mkVals : List Ty → Nat → List Val × Nat
    | [], p => ([], p)
    | t :: r, p => ((mkVal l t p).1 :: (mkVals r (mkVal l t p).2).1, (mkVals r (mkVal l t p).2).2)

/-- the types of plain values: a pair has two parts -/
def Ty.plain : Ty → Prop
  | .mk k ts => (k = 3 → ts.length = 2) ∧ plains ts
where
  plains : List Ty → Prop
    | [] => True
    | t :: r => t.plain ∧ plains r

theorem Ty.plains_iff (ts : List Ty) : Ty.plain.plains ts ↔ ∀ a ∈ ts, a.plain := by
  induction ts with
  | nil => simp [Ty.plain.plains]
  | cons a r ih => simp [Ty.plain.plains, ih]
theorem Ty.plain_eq (t : Ty) : t.plain ↔ (t.kind = 3 → t.args.length = 2) ∧ ∀ a ∈ t.args, a.plain := by
  cases t with
  | mk k ts => simp only [Ty.plain, Ty.plains_iff, Ty.kind, Ty.args]
theorem mkVal_eq (l : List Int) (t : Ty) (p : Nat) : mkVal l t p =
    if t.kind = 1 then (Val.mk 1 (nextD l p 5).1 [] [], (nextD l p 5).2)
    else if t.kind = 2 then (Val.mk 2 0 (numsD l (nextD l p 4).2 (nextD l p 4).1.toNat).1 [], (numsD l (nextD l p 4).2 (nextD l p 4).1.toNat).2)
    else if t.kind = 3 then (Val.mk 3 0 [] (mkVal.mkVals l t.args p).1, (mkVal.mkVals l t.args p).2)
    else (Val.mk 4 0 [] [], p) := by
  cases t; rfl
theorem numsD_le {l : List Int} : ∀ {n p : Nat}, p ≤ l.length → (numsD l p n).2 ≤ l.length
  | 0, _, h => h
  | n + 1, _, h => numsD_le (n := n) (nextD_le h)
theorem mkVal_le {l : List Int} (t : Ty) : ∀ {p : Nat}, p ≤ l.length → (mkVal l t p).2 ≤ l.length := by
  induction t using Ty.ind with
  | h t ih =>
  intro p hp
  have hs : ∀ ts : List Ty, (∀ a ∈ ts, a ∈ t.args) → ∀ p, p ≤ l.length → (mkVal.mkVals l ts p).2 ≤ l.length := by
    intro ts
    induction ts with
    | nil => intro _ p hp; exact hp
    | cons a r ihr => intro h p hp; exact ihr (fun b hb => h b (List.mem_cons_of_mem _ hb)) _ (ih a (h a (by simp)) hp)
  rw [mkVal_eq]
  split
  · exact nextD_le hp
  · split
    · exact numsD_le (nextD_le hp)
    · split
      · exact hs t.args (fun _ h => h) p hp
      · exact hp

theorem mkval_ok (t : Ty) (b : Nat) (l : List Int) (p : Nat) (hl : l.length ≤ 500) (hp : p ≤ l.length) (ht : t.plain) :
    Con1 Tryz.prog gl 23 [ptr b, t.dv] [(b, deck l p)] (mkVal l t p).1.dv [(b, deck l (mkVal l t p).2)] := by
  induction t using Ty.ind generalizing p with
  | h t ih =>
  refine t_in Tryz.func23 ?_
  intro X hP hgl hf hfn hn hR hids hfit
  have hp5 := nextD_le (n := 5) hp
  have hp4 := nextD_le (n := 4) hp
  rw [mkVal_eq] at hR
  refine t_rg0 ?_
  refine t_rg0 ?_
  by_cases h1 : t.kind = 1
  · rw [if_pos h1] at hR
    refine t_rg @h1 ?_
    refine t_a ?_
    refine W_cond rfl ?_ ?_
    rotate_left
    · intro h; simp at h
    intro _
    refine t_a ?_
    first | refine W_reg [] fun K hK => ?_ | refine W_regd (by rw [hP]; exact mixed) [] fun K hK => ?_
    refine t_s0 ?_
    refine t_c trivial (next_ok b l p 5 (by decide) (by omega)) ?_
    refine t_e ?_
    clear hK K
    repeat (first | refine W_seq ?_ | refine W_skip ?_ | refine W_block ?_ | refine W_inBlock ?_ | refine W_label ?_ | refine W_exit rfl ?_)
    first | refine W_retR hP hf hfn _ ([(b, deck l (nextD l p 5).2)]) (by first | (simp [go_sem, hP, hgl, hn]; done) | (simp [go_sem, hP, hgl, hn]; rfl)) (by simp [go_sem, hP, hgl, hn]) (by simp) ?_ hR.2 | refine W_endR hP hf hfn _ ([(b, deck l (nextD l p 5).2)]) (by first | (simp [go_sem, hP, hgl, hn]; done) | (simp [go_sem, hP, hgl, hn]; rfl)) (by simp [go_sem, hP, hgl, hn]) (by simp) ?_ hR.2
    rw [hR.1]
    refine ⟨?_, by simp⟩
    try simp
    try all_goals (simp [Ty.dv, Ty.cells_eq, Ty.kind_mk, Ty.args_mk, Tm.dv, Tm.cells_eq, Tm.kind_mk, Tm.index_mk, Tm.type_mk, Tm.args_mk, Val.dv, Val.cells_eq, Val.kind_mk, Val.num_mk, Val.list_mk, Val.args_mk, ints])
  rw [if_neg h1] at hR
  by_cases h2 : t.kind = 2
  · rw [if_pos h2] at hR
    have hkb := nextD_bd (l := l) (p := p) (n := 4) (by decide)
    obtain ⟨r0, hr0⟩ : ∃ r0 : Nat, (nextD l p 4).1 = r0 := ⟨(nextD l p 4).1.toNat, by omega⟩
    rw [hr0, Int.toNat_natCast] at hR
    rw [hr0] at hkb
    refine t_rg @h2 ?_
    refine t_a ?_
    refine W_cond rfl ?_ ?_
    · intro h; simp at h
    intro _
    refine t_rg @h2 ?_
    refine t_a ?_
    refine W_cond rfl ?_ ?_
    rotate_left
    · intro h; simp at h
    intro _
    refine t_rg0 ?_
    refine t_a ?_
    first | refine W_reg [] fun K hK => ?_ | refine W_regd (by rw [hP]; exact mixed) [] fun K hK => ?_
    refine t_s0 ?_
    refine t_c trivial (next_ok b l p 4 (by decide) (by omega)) ?_
    refine t_e ?_
    clear hK K
    refine t_a ?_
    refine W_sub [(1005, 0)] (by simp [go_sem]) (by simp [go_sem, hr0, ints_nil]) (by simp [go_sem]) (W_rounds (fun x : List Int × Nat × Nat => x.2.1 ≤ l.length ∧ (x.1 ++ (numsD l x.2.1 x.2.2).1, (numsD l x.2.1 x.2.2).2) = numsD l (nextD l p 4).2 r0 ∧ x.1.length + x.2.2 ≤ 4)
      (fun x => [(.slot 6, .one (.v (dint x.2.2))), (.heap b, .row [.v (.sl (ints l)), .v (dint x.2.1)]), (.loc 5, .row [.v (dint 2), .v (dint 0), .own 1005 (ints x.1), .own 0 []]), (.tok 1005, .tk 1 x.1.length), (.slot 5, .one (.loc 5 0)), (.loc 4, .row [.v (dint 0), .v (dint 0), .own 0 [], .own 0 []]), (.slot 4, .one (.loc 4 0)), (.slot 0, .one (.v (ptr b)))])
      (fun x => x.2.2) ([], (nextD l p 4).2, r0) ⟨hp4, by simp, by simp; omega⟩ ?_)
    rintro ⟨acc, q, r⟩ ⟨i1, i2, i3⟩ ihr
    simp only at i1 i2 i3
    cases r with
    | zero =>
      simp only [numsD, List.append_nil] at i2
      refine t_rg0 ?_
      refine t_a ?_
      refine W_cond rfl ?_ ?_
      · intro h; simp at h
      intro _
      refine t_rg0 ?_
      repeat (first | refine W_seq ?_ | refine W_skip ?_ | refine W_block ?_ | refine W_inBlock ?_ | refine W_label ?_ | refine W_exit rfl ?_)
      first | refine W_retR hP hf hfn _ ([(b, deck l q)]) (by first | (simp [go_sem, hP, hgl, hn, ← i2]; done) | (simp [go_sem, hP, hgl, hn, ← i2]; rfl)) (by simp [go_sem, hP, hgl, hn, ← i2]) (by simp) ?_ hR.2 | refine W_endR hP hf hfn _ ([(b, deck l q)]) (by first | (simp [go_sem, hP, hgl, hn, ← i2]; done) | (simp [go_sem, hP, hgl, hn, ← i2]; rfl)) (by simp [go_sem, hP, hgl, hn, ← i2]) (by simp) ?_ hR.2
      rw [hR.1]
      refine ⟨?_, by simp [← i2]⟩
      try simp [← i2]
      try all_goals (simp [Ty.dv, Ty.cells_eq, Ty.kind_mk, Ty.args_mk, Tm.dv, Tm.cells_eq, Tm.kind_mk, Tm.index_mk, Tm.type_mk, Tm.args_mk, Val.dv, Val.cells_eq, Val.kind_mk, Val.num_mk, Val.list_mk, Val.args_mk, ints])
    | succ r =>
      have hq := nextD_le (n := 4) i1
      refine t_rg0 ?_
      refine t_yes ?_
      refine t_a ?_
      first | refine W_reg [] fun K hK => ?_ | refine W_regd (by rw [hP]; exact mixed) [] fun K hK => ?_
      refine t_s0 ?_
      refine t_c trivial (next_ok b l q 4 (by decide) (by omega)) ?_
      refine t_e ?_
      clear hK K
      refine t_rg0 ?_
      refine t_b ?_
      refine t_sub [(1005, 28)] (j2 @ints_cons @ints_nil) (ihr (acc ++ [(nextD l q 4).1], (nextD l q 4).2, r) ⟨hq, by rw [← i2]; simp [numsD], by simp; omega⟩ (by simp))
  rw [if_neg h2] at hR
  by_cases h3 : t.kind = 3
  · rw [if_pos h3] at hR
    obtain ⟨ht1, ht2⟩ := (Ty.plain_eq t).1 ht
    obtain ⟨x, y, hxy⟩ : ∃ x y, t.args = [x, y] := by
      have := ht1 h3
      match h : t.args, this with
      | [x, y], _ => exact ⟨x, y, rfl⟩
    have hpx := mkVal_le (l := l) x hp
    refine t_rg @h3 ?_
    refine t_no ?_
    refine t_rg @h3 ?_
    refine t_no ?_
    refine t_rg @h3 ?_
    refine t_yes ?_
    refine t_a ?_
    first | refine W_reg [] fun K hK => ?_ | refine W_regd (by rw [hP]; exact mixed) [] fun K hK => ?_
    refine t_s @hxy ?_
    refine t_c @hxy (ih x (by simp [hxy]) p hp (ht2 x (by simp [hxy]))) ?_
    refine t_c @hxy (ih y (by simp [hxy]) _ hpx (ht2 y (by simp [hxy]))) ?_
    refine t_e ?_
    clear hK K
    repeat (first | refine W_seq ?_ | refine W_skip ?_ | refine W_block ?_ | refine W_inBlock ?_ | refine W_label ?_ | refine W_exit rfl ?_)
    first | refine W_retR hP hf hfn _ ([(b, deck l (mkVal l y (mkVal l x p).2).2)]) (by first | (simp [go_sem, hP, hgl, hn, hxy, mkVal.mkVals]; done) | (simp [go_sem, hP, hgl, hn, hxy, mkVal.mkVals]; rfl)) (by simp [go_sem, hP, hgl, hn, hxy, mkVal.mkVals]) (by simp) ?_ hR.2 | refine W_endR hP hf hfn _ ([(b, deck l (mkVal l y (mkVal l x p).2).2)]) (by first | (simp [go_sem, hP, hgl, hn, hxy, mkVal.mkVals]; done) | (simp [go_sem, hP, hgl, hn, hxy, mkVal.mkVals]; rfl)) (by simp [go_sem, hP, hgl, hn, hxy, mkVal.mkVals]) (by simp) ?_ hR.2
    rw [hR.1]
    refine ⟨?_, by simp [hxy, mkVal.mkVals]⟩
    try simp [hxy, mkVal.mkVals]
    try all_goals (simp [Ty.dv, Ty.cells_eq, Ty.kind_mk, Ty.args_mk, Tm.dv, Tm.cells_eq, Tm.kind_mk, Tm.index_mk, Tm.type_mk, Tm.args_mk, Val.dv, Val.cells_eq, Val.kind_mk, Val.num_mk, Val.list_mk, Val.args_mk, ints])
  rw [if_neg h3] at hR
  refine t_rg @h1 ?_
  refine t_no ?_
  refine t_rg @h2 ?_
  refine t_no ?_
  refine t_rg @h3 ?_
  refine t_no ?_
  refine t_rg0 ?_
  repeat (first | refine W_seq ?_ | refine W_skip ?_ | refine W_block ?_ | refine W_inBlock ?_ | refine W_label ?_ | refine W_exit rfl ?_)
  first | refine W_retR hP hf hfn _ ([(b, deck l p)]) (by first | (simp [go_sem, hP, hgl, hn]; done) | (simp [go_sem, hP, hgl, hn]; rfl)) (by simp [go_sem, hP, hgl, hn]) (by simp) ?_ hR.2 | refine W_endR hP hf hfn _ ([(b, deck l p)]) (by first | (simp [go_sem, hP, hgl, hn]; done) | (simp [go_sem, hP, hgl, hn]; rfl)) (by simp [go_sem, hP, hgl, hn]) (by simp) ?_ hR.2
  rw [hR.1]
  refine ⟨?_, by simp⟩
  try simp
  try all_goals (simp [Ty.dv, Ty.cells_eq, Ty.kind_mk, Ty.args_mk, Tm.dv, Tm.cells_eq, Tm.kind_mk, Tm.index_mk, Tm.type_mk, Tm.args_mk, Val.dv, Val.cells_eq, Val.kind_mk, Val.num_mk, Val.list_mk, Val.args_mk, ints])
end Go.Proofs.YtiacandbafjlfaaGreatDoor.Lift

namespace Go.Proofs.YtiacandbafjlfaaGreatDoor.Lift
set_option linter.unusedSimpArgs false
set_option linter.unusedVariables false
set_option linter.unnecessarySimpa false
open Go
variable {gl : Globs}

theorem Val.fit_args {t : Val} (h : t.dv.fit) : t.args.length ≤ 2147483648 := ((Val.fit_eq t).1 ((Val.dv_fit t).1 h)).2.2.2.1
theorem Val.fit_list {t : Val} (h : t.dv.fit) : t.list.length ≤ 2147483648 := ((Val.fit_eq t).1 ((Val.dv_fit t).1 h)).2.2.1.1

theorem of_ok (k : Int) (l : List Tm) : Con1 Tryz.prog gl 137 [dint k, .sl (l.map Tm.cells)] [] (Tm.mk k 0 (Ty.mk 0 []) l).dv [] := by
  refine t_in Tryz.func137 ?_
  intro X hP hgl hf hfn hn hR hids hfit
  refine t_rg0 ?_
  refine t_rg0 ?_
  refine t_r ?_
  simp [go_sem, hP, hgl, hn] <;> (try omega)
  all_goals exact t_f

def numTm : Nat → Tm
  | 0 => Tm.mk 4 0 (Ty.mk 0 []) []
  | n + 1 => Tm.mk 5 0 (Ty.mk 0 []) [numTm n]

def sizeI (n : Int) : Int := min n 4096 + 1
/-- the number of nodes of a value, and whether all have a form -/
def Val.okB (v : Val) : Bool :=
  if v.kind = 1 then decide (0 ≤ v.num) && decide (v.list.length = 0) && decide (v.args.length = 0)
  else if v.kind = 2 then decide (v.num = 0) && !v.list.any (fun n => decide (n < 0)) && decide (v.args.length = 0)
  else if v.kind = 3 then decide (v.num = 0) && decide (v.list.length = 0) && decide (v.args.length = 2)
  else if v.kind = 4 then decide (v.num = 0) && decide (v.list.length = 0) && decide (v.args.length = 0)
  else false

theorem negative_ok (n : Int) : Con1 Tryz.prog gl 125 [dint n] [] (dbool (decide (n < 0))) [] := by
  refine t_in Tryz.func125 ?_
  intro X hP hgl hf hfn hn hR hids hfit
  refine t_rg0 ?_
  refine t_rg0 ?_
  refine t_r ?_
  simp [go_sem, hP, hgl, hn] <;> (try omega)

abbrev fnv (f : Nat) : DV := .prim (.func (.func f) #[] #[])

/-- the first place of a negative number -/
def idxNeg (l : List Int) : Int := match l.findIdx? (fun n => decide (n < 0)) with
  | some k => k
  | none => -1

theorem indexNeg_ok (l : List Int) : Con1 Tryz.prog gl 143 [.sl (ints l), fnv 125] [] (dint (idxNeg l)) [] := by
  refine t_in Tryz.func143 ?_
  intro X hP hgl hf hfn hn hR hids hfit
  have hlen : l.length ≤ 2147483648 := by simpa [ints] using sl_len (hfit (.sl (ints l)) (by simp))
  refine t_rg0 ?_
  refine t_rg0 ?_
  refine t_a ?_
  refine t_sub [] trivial (W_upto (l.length) (fun i => ∀ (j : Nat) (x : Int), j < i → l[j]? = some x → 0 ≤ x) (fun i => [(.slot 8, .one (.v (dint i))), (.slot 7, .one (.v (dint l.length))), (.slot 6, .one (.v (.sl (ints l)))), (.slot 0, .one (.v (.sl (ints l)))), (.slot 1, .one (.v (fnv 125)))]) (by intro j x h; omega) ?_ ?_)
  · intro i hlt hI hnext
    obtain ⟨x, hx⟩ : ∃ x, l[i]? = some x := ⟨_, List.getElem?_eq_getElem hlt⟩
    have hg := ints_get hx
    refine t_rg0 ?_
    refine t_yes ?_
    refine t_rg0 ?_
    refine t_a ?_
    first | refine W_reg [] fun K hK => ?_ | refine W_regd (by rw [hP]; exact mixed) [] fun K hK => ?_
    refine t_s @hg ?_
    repeat (refine ⟨by omega, ?_⟩)
    refine vcK_callF hP hgl (negative_ok x) (by simp [go_sem]) (by simp [go_sem, hP, hgl, hn]) rfl (by simp [go_sem]) (by simp) (by rw [hn]; exact Nat.le_of_ble_eq_true rfl) ?_
    simp [go_sem, hP, hgl, hn]
    refine t_e ?_
    clear hK K
    by_cases hneg : x < 0
    · refine t_a ?_
      refine W_cond rfl ?_ ?_
      rotate_left
      · intro h; simp [hneg] at h
      intro _
      refine t_rg0 ?_
      refine t_r ?_
      simp [go_sem, hP, hgl, hn] <;> (try omega)
      unfold idxNeg
      have : l.findIdx? (fun n => decide (n < 0)) = some i := by
        rw [List.findIdx?_eq_some_iff_getElem]
        obtain ⟨h1, h2⟩ := List.getElem?_eq_some_iff.1 hx
        refine ⟨h1, by simp [h2, hneg], fun j hj => ?_⟩
        have := hI j l[j] hj (List.getElem?_eq_getElem (by omega))
        simp; omega
      rw [this]
    · refine t_a ?_
      refine W_cond rfl ?_ ?_
      · intro h; simp [hneg] at h
      intro _
      refine t_rg0 ?_
      refine t_b ?_
      refine t_sub [] trivial (hnext ?_)
      intro j y hj hy
      by_cases hji : j = i
      · subst hji; rw [hx] at hy; cases hy; omega
      · exact hI j y (by omega) hy
  · intro hI
    refine t_rg0 ?_
    refine t_no ?_
    refine t_rg0 ?_
    refine t_r ?_
    simp [go_sem, hP, hgl, hn] <;> (try omega)
    unfold idxNeg
    have : l.findIdx? (fun n => decide (n < 0)) = none := by
      rw [List.findIdx?_eq_none_iff]
      intro x hx
      obtain ⟨i, hi, rfl⟩ := List.mem_iff_getElem.1 hx
      have := hI i l[i] hi (List.getElem?_eq_getElem hi)
      simp; omega
    rw [this]

theorem contains_ok (l : List Int) : Con1 Tryz.prog gl 126 [.sl (ints l), fnv 125] [] (dbool (l.any (fun n => decide (n < 0)))) [] := by
  refine t_in Tryz.func126 ?_
  intro X hP hgl hf hfn hn hR hids hfit
  refine t_rg0 ?_
  refine t_a ?_
  first | refine W_reg [] fun K hK => ?_ | refine W_regd (by rw [hP]; exact mixed) [] fun K hK => ?_
  refine t_s0 ?_
  refine t_c trivial (indexNeg_ok l) ?_
  refine t_e ?_
  clear hK K
  refine t_r ?_
  simp [go_sem, hP, hgl, hn] <;> (try omega)
  unfold idxNeg
  cases h : l.findIdx? (fun n => decide (n < 0)) with
  | none =>
    rw [List.findIdx?_eq_none_iff] at h
    have : l.any (fun n => decide (n < 0)) = false := by
      rw [List.any_eq_false]
      intro x hx
      simp [h x hx]
    simp only [this]
    decide
  | some k =>
    obtain ⟨h1, h2, -⟩ := List.findIdx?_eq_some_iff_getElem.1 h
    have : l.any (fun n => decide (n < 0)) = true := by
      rw [List.any_eq_true]
      exact ⟨_, List.getElem_mem h1, h2⟩
    simp [this]

end Go.Proofs.YtiacandbafjlfaaGreatDoor.Lift

namespace Go.Proofs.YtiacandbafjlfaaGreatDoor.Lift
set_option linter.unusedSimpArgs false
set_option linter.unusedVariables false
set_option linter.unnecessarySimpa false
open Go
variable {gl : Globs}

def Val.nodesN : Val → Int × Bool
  | .mk k n l a => nodesL a (1, Val.okB (.mk k n l a))
where
  nodesL : List Val → Int × Bool → Int × Bool
    | [], p => p
    | a :: r, p => if p.2 then nodesL r (p.1 + (Val.nodesN a).1, (Val.nodesN a).2) else p
theorem Val.nodesN_eq (v : Val) : v.nodesN = nodesN.nodesL v.args (1, v.okB) := by cases v; simp [nodesN, args]
theorem Val.nodesL_no (l : List Val) (n : Int) : nodesN.nodesL l (n, false) = (n, false) := by cases l <;> simp [nodesN.nodesL]
theorem Val.nodesL_append (l m : List Val) (p : Int × Bool) : nodesN.nodesL (l ++ m) p = nodesN.nodesL m (nodesN.nodesL l p) := by
  induction l generalizing p with
  | nil => simp [nodesN.nodesL]
  | cons a r ih =>
    obtain ⟨n, ok⟩ := p
    cases ok with
    | true => simp [nodesN.nodesL, ih]
    | false => simp [nodesL_no]

/-- the number of nodes of a value -/
def Val.count : Val → Nat
  | .mk _ _ _ a => 1 + counts a
where
  counts : List Val → Nat
    | [] => 0
    | a :: r => a.count + counts r
theorem Val.count_eq (t : Val) : t.count = 1 + Val.count.counts t.args := by cases t; simp [count, args]
theorem Val.counts_append (l m : List Val) : Val.count.counts (l ++ m) = Val.count.counts l + Val.count.counts m := by
  induction l with
  | nil => simp [Val.count.counts]
  | cons a r ih => simp [Val.count.counts, ih]; omega

theorem Val.nodesL_le {v : Val} (ih : ∀ a ∈ v.args, 0 ≤ a.nodesN.1 ∧ a.nodesN.1 ≤ a.count) (l : List Val) : (∀ a ∈ l, a ∈ v.args) → ∀ (n : Int) (ok : Bool), n ≤ (nodesN.nodesL l (n, ok)).1 ∧ (nodesN.nodesL l (n, ok)).1 ≤ n + Val.count.counts l := by
  induction l with
  | nil => intro _ n ok; simp [nodesN.nodesL, Val.count.counts]
  | cons a r ihr =>
    intro h n ok
    have h1 := ih a (h a (by simp))
    cases ok with
    | false => simp [nodesL_no, Val.count.counts]; omega
    | true =>
      have h2 := ihr (fun b hb => h b (List.mem_cons_of_mem _ hb)) (n + a.nodesN.1) a.nodesN.2
      simp only [nodesN.nodesL, if_true, Val.count.counts]
      omega
theorem Val.nodes_le (v : Val) : 0 ≤ v.nodesN.1 ∧ v.nodesN.1 ≤ v.count := by
  induction v using Val.ind with
  | h v ih =>
  have := Val.nodesL_le ih v.args (fun _ h => h) 1 v.okB
  rw [nodesN_eq, count_eq]
  omega

theorem nodes_ok (v : Val) (hc : v.count ≤ 2147483648) : Con1 Tryz.prog gl 107 [v.dv] [] (.tup [dint v.nodesN.1, dbool v.nodesN.2]) [] := by
  induction v using Val.ind with
  | h v ih =>
  refine t_in Tryz.func107 ?_
  intro X hP hgl hf hfn hn hR hids hfit
  have hl1 := Val.fit_args (hfit v.dv (by simp))
  have hl2 := Val.fit_list (hfit v.dv (by simp))
  rw [Val.count_eq] at hc
  refine t_rg0 ?_
  refine t_rg0 ?_
  refine t_rg0 ?_
  refine t_rg0 ?_
  repeat (first | refine W_seq ?_ | refine W_skip ?_ | refine W_inBlock ?_ | refine W_label ?_)
  refine W_cut [(.slot 5, .one (.v (dbool v.okB))), (.loc 1, .row ([.v (dint v.kind), .v (dint v.num), .v (.sl (ints v.list)), .v (.sl (v.args.map Val.cells))])), (.slot 1, .one (.loc 1 0))] ?_ ?_
  · intro hrest
    by_cases h1 : v.kind = 1
    · refine t_rg @h1 ?_
      refine t_yes ?_
      by_cases q1 : 0 ≤ v.num
      · by_cases q2 : v.list.length = 0
        · refine t_rg (j2 @h1 (j2 @q1 @q2)) ?_
          repeat (first | refine W_inBlock ?_ | refine W_skip ?_ | refine W_label ?_ | refine W_exit rfl ?_)
          refine W_sub [] (by simp [go_sem]) (by simp [go_sem, Val.okB, h1, q1, q2] <;> omega) (by simp [go_sem]) hrest
        · refine t_rg (j2 @h1 (j2 @q1 @q2)) ?_
          repeat (first | refine W_inBlock ?_ | refine W_skip ?_ | refine W_label ?_ | refine W_exit rfl ?_)
          refine W_sub [] (by simp [go_sem]) (by simp [go_sem, Val.okB, h1, q1, q2] <;> omega) (by simp [go_sem]) hrest
      · refine t_rg (j2 @h1 @q1) ?_
        repeat (first | refine W_inBlock ?_ | refine W_skip ?_ | refine W_label ?_ | refine W_exit rfl ?_)
        refine W_sub [] (by simp [go_sem]) (by simp [go_sem, Val.okB, h1, q1] <;> omega) (by simp [go_sem]) hrest
    by_cases h2 : v.kind = 2
    · refine t_rg @h2 ?_
      refine t_no ?_
      refine t_rg @h2 ?_
      refine t_yes ?_
      by_cases q1 : v.num = 0
      · refine t_a ?_
        first | refine W_reg [] fun K hK => ?_ | refine W_regd (by rw [hP]; exact mixed) [] fun K hK => ?_
        refine t_s (j2 @h2 @q1) ?_
        refine t_c trivial (contains_ok v.list) ?_
        by_cases q2 : v.list.any (fun n => decide (n < 0)) = true
        · simp [go_sem, hP, hn, q2]
          refine t_e ?_
          clear hK K
          repeat (first | refine W_inBlock ?_ | refine W_skip ?_ | refine W_label ?_ | refine W_exit rfl ?_)
          refine W_sub [] (by simp [go_sem]) (by simp [go_sem, Val.okB, h2, q1, q2] <;> omega) (by simp [go_sem]) hrest
        · simp only [Bool.not_eq_true] at q2
          simp [go_sem, hP, hn, q2]
          refine t_e ?_
          clear hK K
          repeat (first | refine W_inBlock ?_ | refine W_skip ?_ | refine W_label ?_ | refine W_exit rfl ?_)
          refine W_sub [] (by simp [go_sem]) (by simp [go_sem, Val.okB, h2, q1, q2] <;> omega) (by simp [go_sem]) hrest
      · refine t_rg (j2 @h2 @q1) ?_
        repeat (first | refine W_inBlock ?_ | refine W_skip ?_ | refine W_label ?_ | refine W_exit rfl ?_)
        refine W_sub [] (by simp [go_sem]) (by simp [go_sem, Val.okB, h2, q1] <;> omega) (by simp [go_sem]) hrest
    by_cases h3 : v.kind = 3
    · refine t_rg @h3 ?_
      refine t_no ?_
      refine t_rg @h3 ?_
      refine t_no ?_
      refine t_rg @h3 ?_
      refine t_yes ?_
      by_cases q1 : v.num = 0
      · by_cases q2 : v.list.length = 0
        · refine t_rg (j2 @h3 (j2 @q1 @q2)) ?_
          repeat (first | refine W_inBlock ?_ | refine W_skip ?_ | refine W_label ?_ | refine W_exit rfl ?_)
          refine W_sub [] (by simp [go_sem]) (by simp [go_sem, Val.okB, h3, q1, q2] <;> omega) (by simp [go_sem]) hrest
        · refine t_rg (j2 @h3 (j2 @q1 @q2)) ?_
          repeat (first | refine W_inBlock ?_ | refine W_skip ?_ | refine W_label ?_ | refine W_exit rfl ?_)
          refine W_sub [] (by simp [go_sem]) (by simp [go_sem, Val.okB, h3, q1, q2] <;> omega) (by simp [go_sem]) hrest
      · refine t_rg (j2 @h3 @q1) ?_
        repeat (first | refine W_inBlock ?_ | refine W_skip ?_ | refine W_label ?_ | refine W_exit rfl ?_)
        refine W_sub [] (by simp [go_sem]) (by simp [go_sem, Val.okB, h3, q1] <;> omega) (by simp [go_sem]) hrest
    by_cases h4 : v.kind = 4
    · refine t_rg @h4 ?_
      refine t_no ?_
      refine t_rg @h4 ?_
      refine t_no ?_
      refine t_rg @h4 ?_
      refine t_no ?_
      refine t_rg @h4 ?_
      refine t_yes ?_
      by_cases q1 : v.num = 0
      · by_cases q2 : v.list.length = 0
        · refine t_rg (j2 @h4 (j2 @q1 @q2)) ?_
          repeat (first | refine W_inBlock ?_ | refine W_skip ?_ | refine W_label ?_ | refine W_exit rfl ?_)
          refine W_sub [] (by simp [go_sem]) (by simp [go_sem, Val.okB, h4, q1, q2] <;> omega) (by simp [go_sem]) hrest
        · refine t_rg (j2 @h4 (j2 @q1 @q2)) ?_
          repeat (first | refine W_inBlock ?_ | refine W_skip ?_ | refine W_label ?_ | refine W_exit rfl ?_)
          refine W_sub [] (by simp [go_sem]) (by simp [go_sem, Val.okB, h4, q1, q2] <;> omega) (by simp [go_sem]) hrest
      · refine t_rg (j2 @h4 @q1) ?_
        repeat (first | refine W_inBlock ?_ | refine W_skip ?_ | refine W_label ?_ | refine W_exit rfl ?_)
        refine W_sub [] (by simp [go_sem]) (by simp [go_sem, Val.okB, h4, q1] <;> omega) (by simp [go_sem]) hrest
    refine t_rg @h1 ?_
    refine t_no ?_
    refine t_rg @h2 ?_
    refine t_no ?_
    refine t_rg @h3 ?_
    refine t_no ?_
    refine t_rg @h4 ?_
    refine t_no ?_
    repeat (first | refine W_inBlock ?_ | refine W_skip ?_ | refine W_label ?_ | refine W_exit rfl ?_)
    refine W_sub [] (by simp [go_sem]) (by simp [go_sem, Val.okB, h1, h2, h3, h4] <;> omega) (by simp [go_sem]) hrest
  · refine t_rg0 ?_
    refine t_rg0 ?_
    refine t_a ?_
    refine W_sub [] (by simp [go_sem]) (by simp [go_sem, Val.nodesN.nodesL] <;> omega) (by simp [go_sem]) (W_list (v.args) (fun done rest => [(.slot 84, .one (.v (dint done.length))), (.slot 83, .one (.v (dint v.args.length))), (.slot 82, .one (.v (.sl (v.args.map Val.cells)))), (.slot 6, .one (.v (dint (Val.nodesN.nodesL done (1, v.okB)).1))), (.slot 5, .one (.v (dbool (Val.nodesN.nodesL done (1, v.okB)).2)))]) ?_ ?_)
    · intro done x rest hL hg hnext
      have hlt : done.length < v.args.length := by rw [hL]; simp
      have hcx : Val.count.counts v.args = Val.count.counts done + (x.count + Val.count.counts rest) := by rw [hL, Val.counts_append]; rfl
      have hb := Val.nodesL_le (v := v) (fun a _ => Val.nodes_le a) done (fun a ha => by rw [hL]; simp [ha]) 1 v.okB
      have hx := Val.nodes_le x
      obtain ⟨n, ok, hp⟩ : ∃ n ok, Val.nodesN.nodesL done (1, v.okB) = (n, ok) := ⟨_, _, rfl⟩
      rw [hp] at hb
      simp only [Val.nodesL_append, hp] at hnext ⊢
      refine t_rg0 ?_
      refine t_yes ?_
      refine t_rg @hg ?_
      cases ok with
      | false =>
        refine t_rg0 ?_
        refine t_yes ?_
        refine t_rg0 ?_
        refine t_r ?_
        simp [go_sem, hP, hgl, hn, Val.nodesN_eq, hL, Val.nodesL_append, hp, Val.nodesL_no] <;> (try omega)
      | true =>
        refine t_rg0 ?_
        refine t_no ?_
        refine t_rg0 ?_
        refine t_a ?_
        first | refine W_reg [] fun K hK => ?_ | refine W_regd (by rw [hP]; exact mixed) [] fun K hK => ?_
        refine t_s0 ?_
        refine t_c trivial (ih x (List.mem_of_getElem? hg) (by omega)) ?_
        refine t_e ?_
        clear hK K
        refine t_rg0 ?_
        refine t_rg0 ?_
        repeat (first | refine W_inBlock ?_ | refine W_skip ?_ | refine W_label ?_ | refine W_exit rfl ?_)
        refine W_sub [] (by simp [go_sem]) (by simp [go_sem, Val.nodesN.nodesL] <;> omega) (by simp [go_sem]) hnext
    · refine t_rg0 ?_
      refine t_no ?_
      refine t_rg0 ?_
      refine t_r ?_
      simp [go_sem, hP, hgl, hn, Val.nodesN_eq] <;> (try omega)

theorem check_ok (v : Val) (hc : v.count ≤ 2147483648) : Con1 Tryz.prog gl 68 [v.dv] [] (dint (if v.nodesN.2 = true then if v.nodesN.1 > 64 then 4 else 0 else 2)) [] := by
  refine t_in Tryz.func68 ?_
  intro X hP hgl hf hfn hn hR hids hfit
  refine t_rg0 ?_
  refine t_a ?_
  first | refine W_reg [] fun K hK => ?_ | refine W_regd (by rw [hP]; exact mixed) [] fun K hK => ?_
  refine t_s0 ?_
  refine t_c trivial (nodes_ok v hc) ?_
  refine t_e ?_
  clear hK K
  obtain ⟨n, ok, hp⟩ : ∃ n ok, v.nodesN = (n, ok) := ⟨_, _, rfl⟩
  simp only [hp]
  cases ok with
  | false =>
    refine t_rg0 ?_
    refine t_yes ?_
    refine t_rg0 ?_
    refine t_r ?_
    simp [go_sem, hP, hgl, hn, hp] <;> (try omega)
  | true =>
    refine t_rg0 ?_
    refine t_no ?_
    by_cases h : 64 < n
    · refine t_rg @h ?_
      refine t_yes ?_
      refine t_rg0 ?_
      refine t_r ?_
      simp [go_sem, hP, hgl, hn, hp, h] <;> (try omega)
    · refine t_rg @h ?_
      refine t_no ?_
      refine t_rg0 ?_
      refine t_r ?_
      simp [go_sem, hP, hgl, hn, hp, h] <;> (try omega)
end Go.Proofs.YtiacandbafjlfaaGreatDoor.Lift

/-
  Plain facts: forms and sizes of types and terms.
-/
namespace Go.Proofs.YtiacandbafjlfaaGreatDoor.Lift
set_option linter.unusedSimpArgs false
set_option linter.unusedVariables false
set_option linter.unnecessarySimpa false
open Go

def tyKind (k : Int) (n : Nat) : Bool := (decide (k = 1 ∨ k = 2 ∨ k = 5) && n == 0) || (decide (k = 3 ∨ k = 4) && n == 2)

namespace Ty
set_option linter.unusedSimpArgs false
set_option linter.unusedVariables false
set_option linter.unnecessarySimpa false
def shape : Ty → Bool
  | .mk k a => tyKind k a.length && shapes a
where
  shapes : List Ty → Bool
    | [] => true
    | a :: r => a.shape && shapes r
theorem shape_eq (t : Ty) : t.shape = (tyKind t.kind t.args.length && shape.shapes t.args) := by cases t; rfl
theorem shapes_append (l m : List Ty) : shape.shapes (l ++ m) = (shape.shapes l && shape.shapes m) := by
  induction l with
  | nil => simp [shape.shapes]
  | cons a r ih => simp [shape.shapes, ih, Bool.and_assoc]
theorem shapes_iff (l : List Ty) : shape.shapes l = true ↔ ∀ a ∈ l, a.shape = true := by
  induction l with
  | nil => simp [shape.shapes]
  | cons a r ih => simp [shape.shapes, ih]
def count : Ty → Nat
  | .mk _ a => 1 + counts a
where
  counts : List Ty → Nat
    | [] => 0
    | a :: r => a.count + counts r
theorem count_eq (t : Ty) : t.count = 1 + count.counts t.args := by cases t; rfl
theorem counts_append (l m : List Ty) : count.counts (l ++ m) = count.counts l + count.counts m := by
  induction l with
  | nil => simp [count.counts]
  | cons a r ih => simp [count.counts, ih]; omega
theorem count_mem {l : List Ty} {a : Ty} (h : a ∈ l) : a.count ≤ count.counts l := by
  induction l with
  | nil => cases h
  | cons b r ih =>
    simp only [count.counts]
    rcases List.mem_cons.1 h with rfl | h
    · omega
    · have := ih h; omega
/-- the first error of a type -/
def checkN (t : Ty) : Int := if t.shape = true then if 64 < t.count then 4 else 0 else 2
def zero (t : Ty) : Bool := decide (t.kind = 0) && decide (t.args.length = 0)
end Ty

/-- how many parts a kind of terms has -/
def arityI (k : Int) : Int :=
  if k = 1 ∨ k = 4 ∨ k = 7 ∨ k = 13 then 0 else if k = 2 ∨ k = 5 ∨ k = 11 ∨ k = 12 then 1 else if k = 3 ∨ k = 8 ∨ k = 10 then 2 else if k = 6 ∨ k = 9 then 3 else -1

def tyOfKind (k : Int) (t : Ty) : Bool := if k = 2 ∨ k = 6 ∨ k = 9 then decide (t.checkN = 0) else t.zero

def tmKind (k i : Int) (t : Ty) (n : Nat) : Bool := decide ((n : Int) = arityI k) && decide (0 ≤ i) && (decide (k = 1) || decide (i = 0)) && tyOfKind k t

namespace Tm
set_option linter.unusedSimpArgs false
set_option linter.unusedVariables false
set_option linter.unnecessarySimpa false
def shape : Tm → Bool
  | .mk k i t a => tmKind k i t a.length && shapes a
where
  shapes : List Tm → Bool
    | [] => true
    | a :: r => a.shape && shapes r
theorem shape_eq (t : Tm) : t.shape = (tmKind t.kind t.index t.type t.args.length && shape.shapes t.args) := by cases t; rfl
theorem shapes_append (l m : List Tm) : shape.shapes (l ++ m) = (shape.shapes l && shape.shapes m) := by
  induction l with
  | nil => simp [shape.shapes]
  | cons a r ih => simp [shape.shapes, ih, Bool.and_assoc]
theorem shapes_iff (l : List Tm) : shape.shapes l = true ↔ ∀ a ∈ l, a.shape = true := by
  induction l with
  | nil => simp [shape.shapes]
  | cons a r ih => simp [shape.shapes, ih]
theorem count_mem {l : List Tm} {a : Tm} (h : a ∈ l) : a.count ≤ count.counts l := by
  induction l with
  | nil => cases h
  | cons b r ih =>
    simp only [count.counts]
    rcases List.mem_cons.1 h with rfl | h
    · omega
    · have := ih h; omega
theorem count_pos (t : Tm) : 1 ≤ t.count := by rw [count_eq]; omega
/-- all types of a term are small enough to be counted -/
def tys : Tm → Prop
  | .mk _ _ t a => t.count ≤ 1073741824 ∧ tyss a
where
  tyss : List Tm → Prop
    | [] => True
    | a :: r => a.tys ∧ tyss r
theorem tyss_iff (l : List Tm) : tys.tyss l ↔ ∀ a ∈ l, a.tys := by
  induction l with
  | nil => simp [tys.tyss]
  | cons a r ih => simp [tys.tyss, ih]
theorem tys_eq (t : Tm) : t.tys ↔ t.type.count ≤ 1073741824 ∧ ∀ a ∈ t.args, a.tys := by cases t; simp only [tys, tyss_iff, type, args]
/-- the first error of a term -/
def checkN (t : Tm) : Int := if t.shape = true then if 4096 < t.count then 4 else 0 else 2
end Tm
theorem Ty.fit_len {t : Ty} (h : t.dv.fit) : t.args.length ≤ 2147483648 := ((Ty.fit_eq t).1 ((Ty.dv_fit t).1 h)).2.1
end Go.Proofs.YtiacandbafjlfaaGreatDoor.Lift

namespace Go.Proofs.YtiacandbafjlfaaGreatDoor.Lift
set_option linter.unusedSimpArgs false
set_option linter.unusedVariables false
set_option linter.unnecessarySimpa false
open Go
variable {gl : Globs}

def wantI (k : Int) : Int := if k = 3 ∨ k = 4 then 2 else 0

theorem ref01_shape_ok (t : Ty) : Con1 Tryz.prog gl 78 [t.dv] [] (dbool t.shape) [] := by
  induction t using Ty.ind with
  | h t ih =>
  refine t_in Tryz.func78 ?_
  intro X hP hgl hf hfn hn hR hids hfit
  have hlen := Ty.fit_len (hfit t.dv (by simp))
  have hs := Ty.shape_eq t
  refine t_rg0 ?_
  refine t_rg0 ?_
  refine t_rg0 ?_
  repeat (first | refine W_seq ?_ | refine W_skip ?_ | refine W_inBlock ?_ | refine W_label ?_)
  refine W_cutP (t.kind = 1 ∨ t.kind = 2 ∨ t.kind = 5 ∨ t.kind = 3 ∨ t.kind = 4) [(.slot 3, .one (.v (dint (wantI t.kind)))), (.loc 1, .row ([.v (dint t.kind), .v (.sl (t.args.map Ty.cells))])), (.slot 1, .one (.loc 1 0))] ?_ ?_
  · intro hrest
    by_cases h1 : t.kind = 1
    · repeat (first | (refine W_sub [] (by simp [go_sem]) (by simp [go_sem, wantI, h1] <;> omega) (by simp [go_sem]) (hrest (by simp [h1]))) | refine W_seq ?_ | refine W_skip ?_ | refine W_block ?_ | refine W_inBlock ?_ | refine W_label ?_ | refine W_exit rfl ?_ | ((first | refine W_reg [] fun K hK => ?_ | refine W_regd (by rw [hP]; exact mixed) [] fun K hK => ?_); simp [go_sem, hP, hgl, hn, h1]; (repeat (refine ⟨by omega, ?_⟩)); (first | refine hK _ ?_ | refine ⟨by rfl, hK _ ?_⟩); clear hK K) | refine W_cond rfl (fun _ => ?_) (fun hq => False.elim (by first | (simp [h1]; done) | (simp [h1]; omega) | (simp [h1] at hq; done) | (simp [h1] at hq; omega))) | refine W_cond rfl (fun hq => False.elim (by first | (simp [h1]; done) | (simp [h1]; omega) | (simp [h1] at hq; done) | (simp [h1] at hq; omega))) (fun _ => ?_))
    by_cases h2 : t.kind = 2
    · repeat (first | (refine W_sub [] (by simp [go_sem]) (by simp [go_sem, wantI, h2] <;> omega) (by simp [go_sem]) (hrest (by simp [h2]))) | refine W_seq ?_ | refine W_skip ?_ | refine W_block ?_ | refine W_inBlock ?_ | refine W_label ?_ | refine W_exit rfl ?_ | ((first | refine W_reg [] fun K hK => ?_ | refine W_regd (by rw [hP]; exact mixed) [] fun K hK => ?_); simp [go_sem, hP, hgl, hn, h2]; (repeat (refine ⟨by omega, ?_⟩)); (first | refine hK _ ?_ | refine ⟨by rfl, hK _ ?_⟩); clear hK K) | refine W_cond rfl (fun _ => ?_) (fun hq => False.elim (by first | (simp [h2]; done) | (simp [h2]; omega) | (simp [h2] at hq; done) | (simp [h2] at hq; omega))) | refine W_cond rfl (fun hq => False.elim (by first | (simp [h2]; done) | (simp [h2]; omega) | (simp [h2] at hq; done) | (simp [h2] at hq; omega))) (fun _ => ?_))
    by_cases h3 : t.kind = 5
    · repeat (first | (refine W_sub [] (by simp [go_sem]) (by simp [go_sem, wantI, h3] <;> omega) (by simp [go_sem]) (hrest (by simp [h3]))) | refine W_seq ?_ | refine W_skip ?_ | refine W_block ?_ | refine W_inBlock ?_ | refine W_label ?_ | refine W_exit rfl ?_ | ((first | refine W_reg [] fun K hK => ?_ | refine W_regd (by rw [hP]; exact mixed) [] fun K hK => ?_); simp [go_sem, hP, hgl, hn, h3]; (repeat (refine ⟨by omega, ?_⟩)); (first | refine hK _ ?_ | refine ⟨by rfl, hK _ ?_⟩); clear hK K) | refine W_cond rfl (fun _ => ?_) (fun hq => False.elim (by first | (simp [h3]; done) | (simp [h3]; omega) | (simp [h3] at hq; done) | (simp [h3] at hq; omega))) | refine W_cond rfl (fun hq => False.elim (by first | (simp [h3]; done) | (simp [h3]; omega) | (simp [h3] at hq; done) | (simp [h3] at hq; omega))) (fun _ => ?_))
    by_cases h4 : t.kind = 3
    · repeat (first | (refine W_sub [] (by simp [go_sem]) (by simp [go_sem, wantI, h4] <;> omega) (by simp [go_sem]) (hrest (by simp [h4]))) | refine W_seq ?_ | refine W_skip ?_ | refine W_block ?_ | refine W_inBlock ?_ | refine W_label ?_ | refine W_exit rfl ?_ | ((first | refine W_reg [] fun K hK => ?_ | refine W_regd (by rw [hP]; exact mixed) [] fun K hK => ?_); simp [go_sem, hP, hgl, hn, h4]; (repeat (refine ⟨by omega, ?_⟩)); (first | refine hK _ ?_ | refine ⟨by rfl, hK _ ?_⟩); clear hK K) | refine W_cond rfl (fun _ => ?_) (fun hq => False.elim (by first | (simp [h4]; done) | (simp [h4]; omega) | (simp [h4] at hq; done) | (simp [h4] at hq; omega))) | refine W_cond rfl (fun hq => False.elim (by first | (simp [h4]; done) | (simp [h4]; omega) | (simp [h4] at hq; done) | (simp [h4] at hq; omega))) (fun _ => ?_))
    by_cases h5 : t.kind = 4
    · repeat (first | (refine W_sub [] (by simp [go_sem]) (by simp [go_sem, wantI, h5] <;> omega) (by simp [go_sem]) (hrest (by simp [h5]))) | refine W_seq ?_ | refine W_skip ?_ | refine W_block ?_ | refine W_inBlock ?_ | refine W_label ?_ | refine W_exit rfl ?_ | ((first | refine W_reg [] fun K hK => ?_ | refine W_regd (by rw [hP]; exact mixed) [] fun K hK => ?_); simp [go_sem, hP, hgl, hn, h5]; (repeat (refine ⟨by omega, ?_⟩)); (first | refine hK _ ?_ | refine ⟨by rfl, hK _ ?_⟩); clear hK K) | refine W_cond rfl (fun _ => ?_) (fun hq => False.elim (by first | (simp [h5]; done) | (simp [h5]; omega) | (simp [h5] at hq; done) | (simp [h5] at hq; omega))) | refine W_cond rfl (fun hq => False.elim (by first | (simp [h5]; done) | (simp [h5]; omega) | (simp [h5] at hq; done) | (simp [h5] at hq; omega))) (fun _ => ?_))
    refine t_g (j2 @h1 (j2 @h2 (j2 @h3 (j2 @h4 @h5)))) ?_
    refine t_r ?_
    simp [go_sem, hP, hgl, hn, hs, tyKind, h1, h2, h3, h4, h5] <;> (try omega)
  · intro hk
    by_cases hl : (t.args.length : Int) = wantI t.kind
    · have hty : tyKind t.kind t.args.length = true := by
        unfold wantI at hl
        unfold tyKind
        rcases hk with h | h | h | h | h <;> simp [h] at hl ⊢ <;> omega
      refine t_g @hl ?_
      refine t_a ?_
      refine W_sub [] (by simp [go_sem]) (by simp [go_sem, Ty.shape.shapes] <;> omega) (by simp [go_sem]) (W_listI (t.args) (fun done => Ty.shape.shapes done = true) (fun done rest => [(.slot 23, .one (.v (dint done.length))), (.slot 22, .one (.v (dint t.args.length))), (.slot 21, .one (.v (.sl (t.args.map Ty.cells))))]) (rfl) ?_ ?_)
      · intro done x rest hL hg hI hnext
        have hlt : done.length < t.args.length := by rw [hL]; simp
        refine t_rg0 ?_
        refine t_yes ?_
        refine t_rg @hg ?_
        refine t_c1 @hg (ih x (List.mem_of_getElem? hg)) ?_
        by_cases hx : x.shape = true
        · refine t_n @hx ?_
          refine t_gt (wr []) trivial @hx (hnext (by rw [Ty.shapes_append]; simp [hI, Ty.shape.shapes, hx]))
        · refine t_y @hx ?_
          refine t_g @hx ?_
          have : t.shape = false := by rw [hs, hL, Ty.shapes_append]; simp [Ty.shape.shapes, hx]
          refine t_r ?_
          simp [go_sem, hP, hgl, hn, this] <;> (try omega)
      · intro hI
        refine t_rg0 ?_
        refine t_no ?_
        refine t_g0 ?_
        refine t_r ?_
        simp [go_sem, hP, hgl, hn, hs, hty, hI] <;> (try omega)
    · have hty : tyKind t.kind t.args.length = false := by
        unfold wantI at hl
        unfold tyKind
        rcases hk with h | h | h | h | h <;> simp [h] at hl ⊢ <;> omega
      refine t_g @hl ?_
      refine t_r ?_
      simp [go_sem, hP, hgl, hn, hs, hty] <;> (try omega)

theorem ref01_size_ok (t : Ty) (hc : t.count ≤ 2147483648) : Con1 Tryz.prog gl 79 [t.dv] [] (dint t.count) [] := by
  induction t using Ty.ind with
  | h t ih =>
  refine t_in Tryz.func79 ?_
  intro X hP hgl hf hfn hn hR hids hfit
  have hlen := Ty.fit_len (hfit t.dv (by simp))
  rw [Ty.count_eq] at hc
  refine t_rg0 ?_
  refine t_rg0 ?_
  refine t_rg0 ?_
  refine t_a ?_
  refine W_sub [] (by simp [go_sem]) (by simp [go_sem, Ty.count.counts] <;> omega) (by simp [go_sem]) (W_list (t.args) (fun done rest => [(.slot 9, .one (.v (dint done.length))), (.slot 8, .one (.v (dint t.args.length))), (.slot 7, .one (.v (.sl (t.args.map Ty.cells)))), (.slot 3, .one (.v (dint (1 + Ty.count.counts done : Nat))))]) ?_ ?_)
  · intro done x rest hL hg hnext
    have hlt : done.length < t.args.length := by rw [hL]; simp
    have hcx : Ty.count.counts t.args = Ty.count.counts done + (x.count + Ty.count.counts rest) := by rw [hL, Ty.counts_append]; rfl
    rw [Ty.counts_append] at hnext
    refine t_rg0 ?_
    refine t_yes ?_
    refine t_rg @hg ?_
    refine t_a ?_
    first | refine W_reg [] fun K hK => ?_ | refine W_regd (by rw [hP]; exact mixed) [] fun K hK => ?_
    refine t_s0 ?_
    refine t_c trivial (ih x (List.mem_of_getElem? hg) (by omega)) ?_
    refine t_e ?_
    clear hK K
    refine t_rg0 ?_
    repeat (first | refine W_inBlock ?_ | refine W_skip ?_ | refine W_label ?_ | refine W_exit rfl ?_)
    refine W_sub [] (by simp [go_sem]) (by simp [go_sem, Ty.count.counts] <;> omega) (by simp [go_sem]) hnext
  · refine t_rg0 ?_
    refine t_no ?_
    refine t_rg0 ?_
    refine t_r ?_
    simp [go_sem, hP, hgl, hn, Ty.count_eq] <;> (try omega)

theorem ref01_zero_ok (t : Ty) : Con1 Tryz.prog gl 122 [t.dv] [] (dbool t.zero) [] := by
  refine t_in Tryz.func122 ?_
  intro X hP hgl hf hfn hn hR hids hfit
  refine t_rg0 ?_
  by_cases h : t.kind = 0
  · refine t_rg @h ?_
    refine t_r ?_
    simp [go_sem, hP, hgl, hn, Ty.zero, h] <;> (try omega)
  · refine t_rg @h ?_
    refine t_r ?_
    simp [go_sem, hP, hgl, hn, Ty.zero, h] <;> (try omega)

theorem ref01_check_ok (t : Ty) (hc : t.count ≤ 2147483648) : Con1 Tryz.prog gl 42 [t.dv] [] (dint t.checkN) [] := by
  refine t_in Tryz.func42 ?_
  intro X hP hgl hf hfn hn hR hids hfit
  refine t_rg0 ?_
  refine t_a ?_
  first | refine W_reg [] fun K hK => ?_ | refine W_regd (by rw [hP]; exact mixed) [] fun K hK => ?_
  refine t_s0 ?_
  refine t_c trivial (ref01_shape_ok t) ?_
  refine t_e ?_
  clear hK K
  by_cases h : t.shape = true
  · refine t_n @h ?_
    refine t_a ?_
    first | refine W_reg [] fun K hK => ?_ | refine W_regd (by rw [hP]; exact mixed) [] fun K hK => ?_
    refine t_s0 ?_
    refine t_c trivial (ref01_size_ok t hc) ?_
    refine t_e ?_
    clear hK K
    by_cases h2 : 64 < t.count
    · refine t_y @h2 ?_
      refine t_rg0 ?_
      refine t_r ?_
      simp [go_sem, hP, hgl, hn, Ty.checkN, h, h2] <;> (try omega)
    · refine t_n @h2 ?_
      refine t_rg0 ?_
      refine t_r ?_
      simp [go_sem, hP, hgl, hn, Ty.checkN, h, h2] <;> (try omega)
  · refine t_y @h ?_
    refine t_rg0 ?_
    refine t_r ?_
    simp [go_sem, hP, hgl, hn, Ty.checkN, h] <;> (try omega)
end Go.Proofs.YtiacandbafjlfaaGreatDoor.Lift

/-
  The counts of raw types, terms and values, as far as they are counted.
-/
namespace Go.Proofs.YtiacandbafjlfaaGreatDoor.Lift
set_option linter.unusedSimpArgs false
set_option linter.unusedVariables false
set_option linter.unnecessarySimpa false
open Go
variable {gl : Globs}

namespace Ty
set_option linter.unusedSimpArgs false
set_option linter.unusedVariables false
set_option linter.unnecessarySimpa false
/-- all nodes, with those of its types, and the elements of its lists -/
def tot : Ty → Nat
  | .mk _ a => 1 + tots a
where
  tots : List Ty → Nat
    | [] => 0
    | a :: r => a.tot + tots r
/-- what is counted of a tree, up to a number -/
def cntN : Ty → Int → Int
  | .mk _ a, m => cnts a (1) m
where
  cnts : List Ty → Int → Int → Int
    | [], n, _ => n
    | a :: r, n, m => if n ≤ m then cnts r (n + a.cntN (m - n)) m else n
theorem tot_eq (t : Ty) : t.tot = 1 + tot.tots t.args := by cases t; rfl
theorem tots_append (l r : List Ty) : tot.tots (l ++ r) = tot.tots l + tot.tots r := by
  induction l with
  | nil => simp [tot.tots]
  | cons a l ih => simp [tot.tots, ih]; omega
theorem tot_mem {l : List Ty} {a : Ty} (h : a ∈ l) : a.tot ≤ tot.tots l := by
  induction l with
  | nil => cases h
  | cons b r ih =>
    simp only [tot.tots]
    rcases List.mem_cons.1 h with rfl | h
    · omega
    · have := ih h; omega
theorem cntN_eq (t : Ty) (m : Int) : t.cntN m = cntN.cnts t.args (1) m := by cases t; rfl
theorem cnts_stop (r : List Ty) (n m : Int) (h : ¬ n ≤ m) : cntN.cnts r n m = n := by cases r <;> simp [cntN.cnts, h]
theorem cnts_append (l r : List Ty) (n m : Int) : cntN.cnts (l ++ r) n m = cntN.cnts r (cntN.cnts l n m) m := by
  induction l generalizing n with
  | nil => rfl
  | cons a l ih =>
    simp only [List.cons_append, cntN.cnts]
    split
    · exact ih _
    · rename_i h; rw [cnts_stop _ _ _ h]
theorem cnts_key {l : List Ty} (h : ∀ a ∈ l, ∀ m : Int, 1 ≤ a.cntN m ∧ a.cntN m ≤ a.tot ∧ (a.cntN m ≤ m → a.cntN m = a.tot)) (m : Int) : ∀ n : Int, n ≤ cntN.cnts l n m ∧ cntN.cnts l n m ≤ n + tot.tots l ∧ (cntN.cnts l n m ≤ m → cntN.cnts l n m = n + tot.tots l) := by
  induction l with
  | nil => intro n; simp [cntN.cnts, tot.tots]
  | cons a r ihr =>
    intro n
    obtain ⟨a1, a2, a3⟩ := h a (by simp) (m - n)
    obtain ⟨b1, b2, b3⟩ := ihr (fun b hb => h b (List.mem_cons_of_mem _ hb)) (n + a.cntN (m - n))
    simp only [cntN.cnts, tot.tots]
    split
    · refine ⟨by omega, by omega, fun hm => ?_⟩
      have := b3 hm
      have := a3 (by omega)
      omega
    · exact ⟨by omega, by omega, by omega⟩
theorem cnt_bd (t : Ty) : ∀ m : Int, 1 ≤ t.cntN m ∧ t.cntN m ≤ t.tot ∧ (t.cntN m ≤ m → t.cntN m = t.tot) := by
  induction t using Ty.ind with
  | h t ih =>
  intro m
  have h0 : 1 ≤ (1 : Int) ∧ (1 : Int) ≤ (1 : Nat) ∧ ((1 : Int) ≤ m → (1 : Int) = (1 : Nat)) := by
    exact ⟨by omega, by omega, by omega⟩
  obtain ⟨k1, k2, k3⟩ := cnts_key ih m (1)
  rw [cntN_eq, tot_eq]
  refine ⟨by omega, by omega, fun h => ?_⟩
  have := k3 h
  have := h0.2.2 (by omega)
  omega
theorem cnts_bd (l : List Ty) (n m : Int) : n ≤ cntN.cnts l n m ∧ cntN.cnts l n m ≤ n + tot.tots l := by
  obtain ⟨h1, h2, -⟩ := cnts_key (fun a _ => cnt_bd a) m n (l := l)
  exact ⟨h1, h2⟩
end Ty

theorem counttype_ok (t : Ty) (m : Int) (hm : -1 ≤ m ∧ m ≤ 1000000) (hc : t.tot ≤ 1073741824) : Con1 Tryz.prog gl 31 [t.dv, dint m] [] (dint (t.cntN m)) [] := by
  induction t using Ty.ind generalizing m with
  | h t ih =>
  refine t_in Tryz.func31 ?_
  intro X hP hgl hf hfn hn hR hids hfit
  have hct := Ty.tot_eq t
  have hlen := Ty.fit_len (hfit t.dv (by simp))
  refine t_g0 ?_
  refine t_a ?_
  refine W_sub [] (by simp [go_sem]) (by simp [go_sem, Ty.cntN.cnts] <;> omega) (by simp [go_sem]) (W_list (t.args) (fun done rest => [(.slot 6, .one (.v (dint done.length))), (.slot 5, .one (.v (dint (Ty.cntN.cnts done (1) m)))), (.slot 1, .one (.v (dint m))), (.loc 2, .row ([.v (dint t.kind), .v (.sl (t.args.map Ty.cells))])), (.slot 2, .one (.loc 2 0)), (.slot 4, .one (.v (dint 0)))]) ?_ ?_)
  · intro done x rest hL hg0 hnext
    have hlt : done.length < t.args.length := by rw [hL]; simp
    have hxm := List.mem_of_getElem? hg0
    have hcx := Ty.tot_mem hxm
    have happ := Ty.cnts_append done (x :: rest) (1) m
    have hta := Ty.tots_append done (x :: rest)
    rw [← hL] at happ hta
    have hsn := Ty.cnts_append done [x] (1) m
    simp only [Ty.cntN.cnts] at hsn
    have hbd := Ty.cnts_bd done (1) m
    generalize hn0 : Ty.cntN.cnts done (1) m = n0 at *
    by_cases hle : n0 ≤ m
    · rw [if_pos hle] at hsn
      have hbx := Ty.cnt_bd x (m - n0)
      refine t_g (j2 @hlt @hle) ?_
      refine t_c1 @hg0 (ih x hxm (m - n0) (by omega) (by omega)) ?_
      refine t_gt (wr []) @hsn trivial hnext
    · rw [Ty.cnts_stop _ _ _ hle] at happ
      refine t_g (j2 @hlt @hle) ?_
      refine t_r ?_
      simp [go_sem, hP, hgl, hn, Ty.cntN_eq, happ] <;> (try omega)
  · have hbd := Ty.cnts_bd t.args (1) m
    refine t_g0 ?_
    refine t_r ?_
    simp [go_sem, hP, hgl, hn, Ty.cntN_eq] <;> (try omega)

namespace Tm
set_option linter.unusedSimpArgs false
set_option linter.unusedVariables false
set_option linter.unnecessarySimpa false
/-- all nodes, with those of its types, and the elements of its lists -/
def tot : Tm → Nat
  | .mk _ _ y a => 1 + y.tot + tots a
where
  tots : List Tm → Nat
    | [] => 0
    | a :: r => a.tot + tots r
/-- what is counted of a tree, up to a number -/
def cntN : Tm → Int → Int
  | .mk _ _ y a, m => cnts a (1 + y.cntN (m - 1)) m
where
  cnts : List Tm → Int → Int → Int
    | [], n, _ => n
    | a :: r, n, m => if n ≤ m then cnts r (n + a.cntN (m - n)) m else n
theorem tot_eq (t : Tm) : t.tot = 1 + t.type.tot + tot.tots t.args := by cases t; rfl
theorem tots_append (l r : List Tm) : tot.tots (l ++ r) = tot.tots l + tot.tots r := by
  induction l with
  | nil => simp [tot.tots]
  | cons a l ih => simp [tot.tots, ih]; omega
theorem tot_mem {l : List Tm} {a : Tm} (h : a ∈ l) : a.tot ≤ tot.tots l := by
  induction l with
  | nil => cases h
  | cons b r ih =>
    simp only [tot.tots]
    rcases List.mem_cons.1 h with rfl | h
    · omega
    · have := ih h; omega
theorem cntN_eq (t : Tm) (m : Int) : t.cntN m = cntN.cnts t.args (1 + t.type.cntN (m - 1)) m := by cases t; rfl
theorem cnts_stop (r : List Tm) (n m : Int) (h : ¬ n ≤ m) : cntN.cnts r n m = n := by cases r <;> simp [cntN.cnts, h]
theorem cnts_append (l r : List Tm) (n m : Int) : cntN.cnts (l ++ r) n m = cntN.cnts r (cntN.cnts l n m) m := by
  induction l generalizing n with
  | nil => rfl
  | cons a l ih =>
    simp only [List.cons_append, cntN.cnts]
    split
    · exact ih _
    · rename_i h; rw [cnts_stop _ _ _ h]
theorem cnts_key {l : List Tm} (h : ∀ a ∈ l, ∀ m : Int, 1 ≤ a.cntN m ∧ a.cntN m ≤ a.tot ∧ (a.cntN m ≤ m → a.cntN m = a.tot)) (m : Int) : ∀ n : Int, n ≤ cntN.cnts l n m ∧ cntN.cnts l n m ≤ n + tot.tots l ∧ (cntN.cnts l n m ≤ m → cntN.cnts l n m = n + tot.tots l) := by
  induction l with
  | nil => intro n; simp [cntN.cnts, tot.tots]
  | cons a r ihr =>
    intro n
    obtain ⟨a1, a2, a3⟩ := h a (by simp) (m - n)
    obtain ⟨b1, b2, b3⟩ := ihr (fun b hb => h b (List.mem_cons_of_mem _ hb)) (n + a.cntN (m - n))
    simp only [cntN.cnts, tot.tots]
    split
    · refine ⟨by omega, by omega, fun hm => ?_⟩
      have := b3 hm
      have := a3 (by omega)
      omega
    · exact ⟨by omega, by omega, by omega⟩
theorem cnt_bd (t : Tm) : ∀ m : Int, 1 ≤ t.cntN m ∧ t.cntN m ≤ t.tot ∧ (t.cntN m ≤ m → t.cntN m = t.tot) := by
  induction t using Tm.ind with
  | h t ih =>
  intro m
  have h0 : 1 ≤ (1 + t.type.cntN (m - 1) : Int) ∧ (1 + t.type.cntN (m - 1) : Int) ≤ (1 + t.type.tot : Nat) ∧ ((1 + t.type.cntN (m - 1) : Int) ≤ m → (1 + t.type.cntN (m - 1) : Int) = (1 + t.type.tot : Nat)) := by
    have := Ty.cnt_bd t.type (m - 1); exact ⟨by omega, by omega, by omega⟩
  obtain ⟨k1, k2, k3⟩ := cnts_key ih m (1 + t.type.cntN (m - 1))
  rw [cntN_eq, tot_eq]
  refine ⟨by omega, by omega, fun h => ?_⟩
  have := k3 h
  have := h0.2.2 (by omega)
  omega
theorem cnts_bd (l : List Tm) (n m : Int) : n ≤ cntN.cnts l n m ∧ cntN.cnts l n m ≤ n + tot.tots l := by
  obtain ⟨h1, h2, -⟩ := cnts_key (fun a _ => cnt_bd a) m n (l := l)
  exact ⟨h1, h2⟩
end Tm

theorem countterm_ok (t : Tm) (m : Int) (hm : 0 ≤ m ∧ m ≤ 1000000) (hc : t.tot ≤ 1073741824) : Con1 Tryz.prog gl 32 [t.dv, dint m] [] (dint (t.cntN m)) [] := by
  induction t using Tm.ind generalizing m with
  | h t ih =>
  refine t_in Tryz.func32 ?_
  intro X hP hgl hf hfn hn hR hids hfit
  have hct := Tm.tot_eq t
  have hlen := Tm.fit_len (hfit t.dv (by simp))
  have hty := Ty.cnt_bd t.type (m - 1)
  refine t_g0 ?_
  refine t_c1 trivial (counttype_ok t.type (m - 1) (by omega) (by omega)) ?_
  refine t_g0 ?_
  refine t_a ?_
  refine W_sub [] (by simp [go_sem]) (by simp [go_sem, Tm.cntN.cnts] <;> omega) (by simp [go_sem]) (W_list (t.args) (fun done rest => [(.slot 6, .one (.v (dint done.length))), (.slot 5, .one (.v (dint (Tm.cntN.cnts done (1 + t.type.cntN (m - 1)) m)))), (.slot 1, .one (.v (dint m))), (.loc 2, .row ([.v (dint t.kind), .v (dint t.index), .v (dint t.type.kind), .v (.sl (t.type.args.map Ty.cells)), .v (.sl (t.args.map Tm.cells))])), (.slot 2, .one (.loc 2 0)), (.slot 4, .one (.v (dint 0)))]) ?_ ?_)
  · intro done x rest hL hg0 hnext
    have hlt : done.length < t.args.length := by rw [hL]; simp
    have hxm := List.mem_of_getElem? hg0
    have hcx := Tm.tot_mem hxm
    have happ := Tm.cnts_append done (x :: rest) (1 + t.type.cntN (m - 1)) m
    have hta := Tm.tots_append done (x :: rest)
    rw [← hL] at happ hta
    have hsn := Tm.cnts_append done [x] (1 + t.type.cntN (m - 1)) m
    simp only [Tm.cntN.cnts] at hsn
    have hbd := Tm.cnts_bd done (1 + t.type.cntN (m - 1)) m
    generalize hn0 : Tm.cntN.cnts done (1 + t.type.cntN (m - 1)) m = n0 at *
    by_cases hle : n0 ≤ m
    · rw [if_pos hle] at hsn
      have hbx := Tm.cnt_bd x (m - n0)
      refine t_g (j2 @hlt @hle) ?_
      refine t_c1 @hg0 (ih x hxm (m - n0) (by omega) (by omega)) ?_
      refine t_gt (wr []) @hsn trivial hnext
    · rw [Tm.cnts_stop _ _ _ hle] at happ
      refine t_g (j2 @hlt @hle) ?_
      refine t_r ?_
      simp [go_sem, hP, hgl, hn, Tm.cntN_eq, happ] <;> (try omega)
  · have hbd := Tm.cnts_bd t.args (1 + t.type.cntN (m - 1)) m
    refine t_g0 ?_
    refine t_r ?_
    simp [go_sem, hP, hgl, hn, Tm.cntN_eq] <;> (try omega)

namespace Val
set_option linter.unusedSimpArgs false
set_option linter.unusedVariables false
set_option linter.unnecessarySimpa false
/-- all nodes, with those of its types, and the elements of its lists -/
def tot : Val → Nat
  | .mk _ _ l a => 1 + l.length + tots a
where
  tots : List Val → Nat
    | [] => 0
    | a :: r => a.tot + tots r
/-- what is counted of a tree, up to a number -/
def cntN : Val → Int → Int
  | .mk _ _ l a, m => cnts a (1 + l.length) m
where
  cnts : List Val → Int → Int → Int
    | [], n, _ => n
    | a :: r, n, m => if n ≤ m then cnts r (n + a.cntN (m - n)) m else n
theorem tot_eq (t : Val) : t.tot = 1 + t.list.length + tot.tots t.args := by cases t; rfl
theorem tots_append (l r : List Val) : tot.tots (l ++ r) = tot.tots l + tot.tots r := by
  induction l with
  | nil => simp [tot.tots]
  | cons a l ih => simp [tot.tots, ih]; omega
theorem tot_mem {l : List Val} {a : Val} (h : a ∈ l) : a.tot ≤ tot.tots l := by
  induction l with
  | nil => cases h
  | cons b r ih =>
    simp only [tot.tots]
    rcases List.mem_cons.1 h with rfl | h
    · omega
    · have := ih h; omega
theorem cntN_eq (t : Val) (m : Int) : t.cntN m = cntN.cnts t.args (1 + t.list.length) m := by cases t; rfl
theorem cnts_stop (r : List Val) (n m : Int) (h : ¬ n ≤ m) : cntN.cnts r n m = n := by cases r <;> simp [cntN.cnts, h]
theorem cnts_append (l r : List Val) (n m : Int) : cntN.cnts (l ++ r) n m = cntN.cnts r (cntN.cnts l n m) m := by
  induction l generalizing n with
  | nil => rfl
  | cons a l ih =>
    simp only [List.cons_append, cntN.cnts]
    split
    · exact ih _
    · rename_i h; rw [cnts_stop _ _ _ h]
theorem cnts_key {l : List Val} (h : ∀ a ∈ l, ∀ m : Int, 1 ≤ a.cntN m ∧ a.cntN m ≤ a.tot ∧ (a.cntN m ≤ m → a.cntN m = a.tot)) (m : Int) : ∀ n : Int, n ≤ cntN.cnts l n m ∧ cntN.cnts l n m ≤ n + tot.tots l ∧ (cntN.cnts l n m ≤ m → cntN.cnts l n m = n + tot.tots l) := by
  induction l with
  | nil => intro n; simp [cntN.cnts, tot.tots]
  | cons a r ihr =>
    intro n
    obtain ⟨a1, a2, a3⟩ := h a (by simp) (m - n)
    obtain ⟨b1, b2, b3⟩ := ihr (fun b hb => h b (List.mem_cons_of_mem _ hb)) (n + a.cntN (m - n))
    simp only [cntN.cnts, tot.tots]
    split
    · refine ⟨by omega, by omega, fun hm => ?_⟩
      have := b3 hm
      have := a3 (by omega)
      omega
    · exact ⟨by omega, by omega, by omega⟩
theorem cnt_bd (t : Val) : ∀ m : Int, 1 ≤ t.cntN m ∧ t.cntN m ≤ t.tot ∧ (t.cntN m ≤ m → t.cntN m = t.tot) := by
  induction t using Val.ind with
  | h t ih =>
  intro m
  have h0 : 1 ≤ (1 + t.list.length : Int) ∧ (1 + t.list.length : Int) ≤ (1 + t.list.length : Nat) ∧ ((1 + t.list.length : Int) ≤ m → (1 + t.list.length : Int) = (1 + t.list.length : Nat)) := by
    exact ⟨by omega, by omega, by omega⟩
  obtain ⟨k1, k2, k3⟩ := cnts_key ih m (1 + t.list.length)
  rw [cntN_eq, tot_eq]
  refine ⟨by omega, by omega, fun h => ?_⟩
  have := k3 h
  have := h0.2.2 (by omega)
  omega
theorem cnts_bd (l : List Val) (n m : Int) : n ≤ cntN.cnts l n m ∧ cntN.cnts l n m ≤ n + tot.tots l := by
  obtain ⟨h1, h2, -⟩ := cnts_key (fun a _ => cnt_bd a) m n (l := l)
  exact ⟨h1, h2⟩
end Val

theorem countvalue_ok (t : Val) (m : Int) (hm : 0 ≤ m ∧ m ≤ 1000000) (hc : t.tot ≤ 1073741824) : Con1 Tryz.prog gl 33 [t.dv, dint m] [] (dint (t.cntN m)) [] := by
  induction t using Val.ind generalizing m with
  | h t ih =>
  refine t_in Tryz.func33 ?_
  intro X hP hgl hf hfn hn hR hids hfit
  have hct := Val.tot_eq t
  have hlen := Val.fit_args (hfit t.dv (by simp))
  have hl2 := Val.fit_list (hfit t.dv (by simp))
  refine t_g0 ?_
  refine t_a ?_
  refine W_sub [] (by simp [go_sem]) (by simp [go_sem, Val.cntN.cnts] <;> omega) (by simp [go_sem]) (W_list (t.args) (fun done rest => [(.slot 6, .one (.v (dint done.length))), (.slot 5, .one (.v (dint (Val.cntN.cnts done (1 + t.list.length) m)))), (.slot 1, .one (.v (dint m))), (.loc 2, .row ([.v (dint t.kind), .v (dint t.num), .v (.sl (ints t.list)), .v (.sl (t.args.map Val.cells))])), (.slot 2, .one (.loc 2 0)), (.slot 4, .one (.v (dint 0)))]) ?_ ?_)
  · intro done x rest hL hg0 hnext
    have hlt : done.length < t.args.length := by rw [hL]; simp
    have hxm := List.mem_of_getElem? hg0
    have hcx := Val.tot_mem hxm
    have happ := Val.cnts_append done (x :: rest) (1 + t.list.length) m
    have hta := Val.tots_append done (x :: rest)
    rw [← hL] at happ hta
    have hsn := Val.cnts_append done [x] (1 + t.list.length) m
    simp only [Val.cntN.cnts] at hsn
    have hbd := Val.cnts_bd done (1 + t.list.length) m
    generalize hn0 : Val.cntN.cnts done (1 + t.list.length) m = n0 at *
    by_cases hle : n0 ≤ m
    · rw [if_pos hle] at hsn
      have hbx := Val.cnt_bd x (m - n0)
      refine t_g (j2 @hlt @hle) ?_
      refine t_c1 @hg0 (ih x hxm (m - n0) (by omega) (by omega)) ?_
      refine t_gt (wr []) @hsn trivial hnext
    · rw [Val.cnts_stop _ _ _ hle] at happ
      refine t_g (j2 @hlt @hle) ?_
      refine t_r ?_
      simp [go_sem, hP, hgl, hn, Val.cntN_eq, happ] <;> (try omega)
  · have hbd := Val.cnts_bd t.args (1 + t.list.length) m
    refine t_g0 ?_
    refine t_r ?_
    simp [go_sem, hP, hgl, hn, Val.cntN_eq] <;> (try omega)

theorem Ty.tot_count (t : Ty) : t.tot = t.count := by
  induction t using Ty.ind with
  | h t ih =>
  have key : ∀ l : List Ty, (∀ a ∈ l, a.tot = a.count) → Ty.tot.tots l = Ty.count.counts l := by
    intro l
    induction l with
    | nil => intro _; rfl
    | cons a r ihr => intro h; simp only [Ty.tot.tots, Ty.count.counts, h a (by simp), ihr fun b hb => h b (List.mem_cons_of_mem _ hb)]
  rw [Ty.tot_eq, Ty.count_eq, key t.args ih]
theorem Tm.tot_count (t : Tm) : t.count ≤ t.tot ∧ (t.tot ≤ 1073741824 → t.tys) := by
  induction t using Tm.ind with
  | h t ih =>
  have key : ∀ l : List Tm, (∀ a ∈ l, a.count ≤ a.tot) → Tm.count.counts l ≤ Tm.tot.tots l := by
    intro l
    induction l with
    | nil => intro _; exact Nat.le_refl _
    | cons a r ihr =>
      intro h
      have h1 := h a (by simp)
      have h2 := ihr fun b hb => h b (List.mem_cons_of_mem _ hb)
      simp only [Tm.tot.tots, Tm.count.counts]; omega
  have h1 := key t.args fun a ha => (ih a ha).1
  have h2 := Ty.tot_count t.type
  rw [Tm.tot_eq, Tm.count_eq]
  refine ⟨by omega, fun h => (Tm.tys_eq t).2 ⟨by omega, fun a ha => (ih a ha).2 ?_⟩⟩
  have := Tm.tot_mem ha
  omega
theorem Val.tot_count (t : Val) : t.count ≤ t.tot := by
  induction t using Val.ind with
  | h t ih =>
  have key : ∀ l : List Val, (∀ a ∈ l, a.count ≤ a.tot) → Val.count.counts l ≤ Val.tot.tots l := by
    intro l
    induction l with
    | nil => intro _; exact Nat.le_refl _
    | cons a r ihr =>
      intro h
      have h1 := h a (by simp)
      have h2 := ihr fun b hb => h b (List.mem_cons_of_mem _ hb)
      simp only [Val.tot.tots, Val.count.counts]; omega
  have h1 := key t.args ih
  rw [Val.tot_eq, Val.count_eq]
  omega
end Go.Proofs.YtiacandbafjlfaaGreatDoor.Lift

namespace Go.Proofs.YtiacandbafjlfaaGreatDoor.Lift
set_option linter.unusedSimpArgs false
set_option linter.unusedVariables false
set_option linter.unnecessarySimpa false
open Go
variable {gl : Globs}

/-- the first error of a list of types -/
def errTys : List Ty → Int
  | [] => 0
  | t :: r => if t.checkN = 0 then errTys r else t.checkN
def ctxN (l : List Ty) : Int := if 16 < l.length then 3 else errTys l
theorem errTys_append (l m : List Ty) (h : errTys l = 0) : errTys (l ++ m) = errTys m := by
  induction l with
  | nil => rfl
  | cons a r ih =>
    simp only [errTys] at h
    split at h
    · rename_i ha; simp only [List.cons_append, errTys, ha, if_true]; exact ih h
    · rename_i ha; exact absurd h ha

theorem ref01_context_ok (l : List Ty) (hc : ∀ t ∈ l, t.count ≤ 2147483648) : Con1 Tryz.prog gl 127 [.sl (l.map Ty.cells)] [] (dint (ctxN l)) [] := by
  refine t_in Tryz.func127 ?_
  intro X hP hgl hf hfn hn hR hids hfit
  have hlen := sl_len (hfit (.sl (l.map Ty.cells)) (by simp))
  simp only [List.length_map] at hlen
  by_cases h : 16 < l.length
  · refine t_g @h ?_
    refine t_r ?_
    simp [go_sem, hP, hgl, hn, ctxN, h] <;> (try omega)
  · refine t_g @h ?_
    refine t_a ?_
    refine t_sub [] trivial (W_listI (l) (fun done => errTys done = 0) (fun done rest => [(.slot 11, .one (.v (dint done.length))), (.slot 10, .one (.v (dint l.length))), (.slot 9, .one (.v (.sl (l.map Ty.cells))))]) (rfl) ?_ ?_)
    · intro done x rest hL hg hI hnext
      have hlt : done.length < l.length := by rw [hL]; simp
      have hx := errTys_append done (x :: rest) hI
      rw [← hL] at hx
      refine t_rg0 ?_
      refine t_yes ?_
      refine t_rg @hg ?_
      refine t_c1 @hg (ref01_check_ok x (hc x (List.mem_of_getElem? hg))) ?_
      by_cases hx0 : x.checkN = 0
      · refine t_gt (wr []) trivial @hx0 (hnext (by rw [errTys_append done [x] hI]; simp [errTys, hx0]))
      · refine t_g @hx0 ?_
        refine t_r ?_
        simp [go_sem, hP, hgl, hn, ctxN, h, hx, errTys, hx0] <;> (try omega)
    · intro hI
      refine t_rg0 ?_
      refine t_no ?_
      refine t_g0 ?_
      refine t_r ?_
      simp [go_sem, hP, hgl, hn, ctxN, h, hI] <;> (try omega)

theorem ref02_args_ok (k : Int) : Con1 Tryz.prog gl 121 [dint k] [] (dint (arityI k)) [] := by
  refine t_in Tryz.func121 ?_
  intro X hP hgl hf hfn hn hR hids hfit
  by_cases hs0 : k = 1
  · refine t_g @hs0 ?_
    refine t_r ?_
    simp [go_sem, hP, hgl, hn, arityI, hs0] <;> (try omega)
  by_cases hs1 : k = 4
  · refine t_g @hs1 ?_
    refine t_r ?_
    simp [go_sem, hP, hgl, hn, arityI, hs1] <;> (try omega)
  by_cases hs2 : k = 7
  · refine t_g @hs2 ?_
    refine t_r ?_
    simp [go_sem, hP, hgl, hn, arityI, hs2] <;> (try omega)
  by_cases hs3 : k = 13
  · refine t_g @hs3 ?_
    refine t_r ?_
    simp [go_sem, hP, hgl, hn, arityI, hs3] <;> (try omega)
  by_cases hs4 : k = 2
  · refine t_g @hs4 ?_
    refine t_r ?_
    simp [go_sem, hP, hgl, hn, arityI, hs4] <;> (try omega)
  by_cases hs5 : k = 5
  · refine t_g @hs5 ?_
    refine t_r ?_
    simp [go_sem, hP, hgl, hn, arityI, hs5] <;> (try omega)
  by_cases hs6 : k = 11
  · refine t_g @hs6 ?_
    refine t_r ?_
    simp [go_sem, hP, hgl, hn, arityI, hs6] <;> (try omega)
  by_cases hs7 : k = 12
  · refine t_g @hs7 ?_
    refine t_r ?_
    simp [go_sem, hP, hgl, hn, arityI, hs7] <;> (try omega)
  by_cases hs8 : k = 3
  · refine t_g @hs8 ?_
    refine t_r ?_
    simp [go_sem, hP, hgl, hn, arityI, hs8] <;> (try omega)
  by_cases hs9 : k = 8
  · refine t_g @hs9 ?_
    refine t_r ?_
    simp [go_sem, hP, hgl, hn, arityI, hs9] <;> (try omega)
  by_cases hs10 : k = 10
  · refine t_g @hs10 ?_
    refine t_r ?_
    simp [go_sem, hP, hgl, hn, arityI, hs10] <;> (try omega)
  by_cases hs11 : k = 6
  · refine t_g @hs11 ?_
    refine t_r ?_
    simp [go_sem, hP, hgl, hn, arityI, hs11] <;> (try omega)
  by_cases hs12 : k = 9
  · refine t_g @hs12 ?_
    refine t_r ?_
    simp [go_sem, hP, hgl, hn, arityI, hs12] <;> (try omega)
  refine t_g (j2 @hs0 (j2 @hs1 (j2 @hs2 (j2 @hs3 (j2 @hs4 (j2 @hs5 (j2 @hs6 (j2 @hs7 (j2 @hs8 (j2 @hs9 (j2 @hs10 (j2 @hs11 @hs12)))))))))))) ?_
  refine t_r ?_
  simp [go_sem, hP, hgl, hn, arityI, hs0, hs1, hs2, hs3, hs4, hs5, hs6, hs7, hs8, hs9, hs10, hs11, hs12] <;> (try omega)

def okNode (t : Tm) : Bool := decide ((t.args.length : Int) = arityI t.kind) && decide (0 ≤ t.index) && (decide (t.kind = 1) || decide (t.index = 0))

theorem ref02_shape_ok (t : Tm) (ht : t.tys) : Con1 Tryz.prog gl 89 [t.dv] [] (dbool t.shape) [] := by
  induction t using Tm.ind with
  | h t ih =>
  obtain ⟨ht1, ht2⟩ := (Tm.tys_eq t).1 ht
  refine t_in Tryz.func89 ?_
  intro X hP hgl hf hfn hn hR hids hfit
  have hlen := Tm.fit_len (hfit t.dv (by simp))
  have hs := Tm.shape_eq t
  refine t_rg0 ?_
  repeat (first | refine W_seq ?_ | refine W_skip ?_ | refine W_inBlock ?_ | refine W_label ?_)
  refine W_cut [(.slot 26, .one (.v (dbool (!okNode t)))), (.loc 1, .row ([.v (dint t.kind), .v (dint t.index), .v (dint t.type.kind), .v (.sl (t.type.args.map Ty.cells)), .v (.sl (t.args.map Tm.cells))])), (.slot 1, .one (.loc 1 0))] ?_ ?_
  · intro hrest
    by_cases hA : (t.args.length : Int) = arityI t.kind
    · by_cases hB : t.index < 0
      · refine t_c1 (j2 @hA @hB) (ref02_args_ok t.kind) ?_
        repeat (first | refine W_inBlock ?_ | refine W_skip ?_ | refine W_label ?_ | refine W_exit rfl ?_)
        refine W_sub [] (by simp [go_sem]) (by simp [go_sem, okNode, hA, hB] <;> omega) (by simp [go_sem]) hrest
      · by_cases hC : t.kind = 1
        · refine t_c1 (j2 @hA (j2 @hB @hC)) (ref02_args_ok t.kind) ?_
          repeat (first | refine W_inBlock ?_ | refine W_skip ?_ | refine W_label ?_ | refine W_exit rfl ?_)
          refine W_sub [] (by simp [go_sem]) (by simp [go_sem, okNode, hA, hB, hC] <;> omega) (by simp [go_sem]) hrest
        · by_cases hD : t.index = 0
          · refine t_c1 (j2 @hA (j2 @hB (j2 @hC @hD))) (ref02_args_ok t.kind) ?_
            repeat (first | refine W_inBlock ?_ | refine W_skip ?_ | refine W_label ?_ | refine W_exit rfl ?_)
            refine W_sub [] (by simp [go_sem]) (by simp [go_sem, okNode, hA, hB, hC, hD] <;> omega) (by simp [go_sem]) hrest
          · refine t_c1 (j2 @hA (j2 @hB (j2 @hC @hD))) (ref02_args_ok t.kind) ?_
            repeat (first | refine W_inBlock ?_ | refine W_skip ?_ | refine W_label ?_ | refine W_exit rfl ?_)
            refine W_sub [] (by simp [go_sem]) (by simp [go_sem, okNode, hA, hB, hC, hD] <;> omega) (by simp [go_sem]) hrest
    · refine t_c1 @hA (ref02_args_ok t.kind) ?_
      repeat (first | refine W_inBlock ?_ | refine W_skip ?_ | refine W_label ?_ | refine W_exit rfl ?_)
      refine W_sub [] (by simp [go_sem]) (by simp [go_sem, okNode, hA] <;> omega) (by simp [go_sem]) hrest
  · by_cases hok : okNode t = true
    · have hk : tmKind t.kind t.index t.type t.args.length = tyOfKind t.kind t.type := by
        simp only [okNode, Bool.and_eq_true, decide_eq_true_eq] at hok
        simp [tmKind, hok]
      refine t_n @hok ?_
      refine t_rg0 ?_
      repeat (first | refine W_seq ?_ | refine W_skip ?_ | refine W_inBlock ?_ | refine W_label ?_)
      refine W_cutP (tyOfKind t.kind t.type = true) [(.loc 1, .row ([.v (dint t.kind), .v (dint t.index), .v (dint t.type.kind), .v (.sl (t.type.args.map Ty.cells)), .v (.sl (t.args.map Tm.cells))])), (.slot 1, .one (.loc 1 0))] ?_ ?_
      · intro hrest
        by_cases k2 : t.kind = 2
        · refine t_g @k2 ?_
          refine t_c1 trivial (ref01_check_ok t.type (by omega)) ?_
          by_cases hc : t.type.checkN = 0
          · refine t_gt (wr []) @k2 (j2 @k2 @hc) (hrest (by simp [tyOfKind, k2, hc]))
          · have hz : tyOfKind t.kind t.type = false := by simp [tyOfKind, k2, hc]
            refine t_g @hc ?_
            refine t_r ?_
            simp [go_sem, hP, hgl, hn, hs, hk, hz] <;> (try omega)
        by_cases k6 : t.kind = 6
        · refine t_g @k6 ?_
          refine t_c1 trivial (ref01_check_ok t.type (by omega)) ?_
          by_cases hc : t.type.checkN = 0
          · refine t_gt (wr []) @k6 (j2 @k6 @hc) (hrest (by simp [tyOfKind, k6, hc]))
          · have hz : tyOfKind t.kind t.type = false := by simp [tyOfKind, k6, hc]
            refine t_g @hc ?_
            refine t_r ?_
            simp [go_sem, hP, hgl, hn, hs, hk, hz] <;> (try omega)
        by_cases k9 : t.kind = 9
        · refine t_g @k9 ?_
          refine t_c1 trivial (ref01_check_ok t.type (by omega)) ?_
          by_cases hc : t.type.checkN = 0
          · refine t_gt (wr []) @k9 (j2 @k9 @hc) (hrest (by simp [tyOfKind, k9, hc]))
          · have hz : tyOfKind t.kind t.type = false := by simp [tyOfKind, k9, hc]
            refine t_g @hc ?_
            refine t_r ?_
            simp [go_sem, hP, hgl, hn, hs, hk, hz] <;> (try omega)
        refine t_g (j2 @k2 (j2 @k6 @k9)) ?_
        refine t_c1 trivial (ref01_zero_ok t.type) ?_
        by_cases hc : t.type.zero = true
        · refine t_gt (wr []) trivial @hc (hrest (by simp [tyOfKind, k2, k6, k9, hc]))
        · have hz : tyOfKind t.kind t.type = false := by simp [tyOfKind, k2, k6, k9, hc]
          refine t_g @hc ?_
          refine t_r ?_
          simp [go_sem, hP, hgl, hn, hs, hk, hz] <;> (try omega)
      · intro hty
        refine t_g0 ?_
        refine t_a ?_
        refine W_sub [] (by simp [go_sem]) (by simp [go_sem, Tm.shape.shapes] <;> omega) (by simp [go_sem]) (W_listI (t.args) (fun done => Tm.shape.shapes done = true) (fun done rest => [(.slot 44, .one (.v (dint done.length))), (.slot 43, .one (.v (dint t.args.length))), (.slot 42, .one (.v (.sl (t.args.map Tm.cells))))]) (rfl) ?_ ?_)
        · intro done x rest hL hg hI hnext
          have hlt : done.length < t.args.length := by rw [hL]; simp
          refine t_rg0 ?_
          refine t_yes ?_
          refine t_rg @hg ?_
          refine t_c1 @hg (ih x (List.mem_of_getElem? hg) (ht2 x (List.mem_of_getElem? hg))) ?_
          by_cases hx : x.shape = true
          · refine t_gt (wr []) trivial @hx (hnext (by rw [Tm.shapes_append]; simp [hI, Tm.shape.shapes, hx]))
          · refine t_g @hx ?_
            have : t.shape = false := by rw [hs, hL, Tm.shapes_append]; simp [Tm.shape.shapes, hx]
            refine t_r ?_
            simp [go_sem, hP, hgl, hn, this] <;> (try omega)
        · intro hI
          refine t_rg0 ?_
          refine t_no ?_
          refine t_g0 ?_
          refine t_r ?_
          simp [go_sem, hP, hgl, hn, hs, hk, hty, hI] <;> (try omega)
    · have hk : tmKind t.kind t.index t.type t.args.length = false := by
        simp only [okNode, Bool.and_eq_true, decide_eq_true_eq] at hok
        simp only [tmKind]
        cases hh : (decide ((t.args.length : Int) = arityI t.kind) && decide (0 ≤ t.index) && (decide (t.kind = 1) || decide (t.index = 0))) with
        | true => exact absurd (by simpa using hh) hok
        | false => rfl
      refine t_g @hok ?_
      refine t_r ?_
      simp [go_sem, hP, hgl, hn, hs, hk] <;> (try omega)

theorem ref02_check_ok (t : Tm) (ht : t.tys) (hc : t.count ≤ 2147483648) : Con1 Tryz.prog gl 51 [t.dv] [] (dint t.checkN) [] := by
  refine t_in Tryz.func51 ?_
  intro X hP hgl hf hfn hn hR hids hfit
  refine t_g0 ?_
  refine t_c1 trivial (ref02_shape_ok t ht) ?_
  by_cases h : t.shape = true
  · refine t_g @h ?_
    refine t_c1 trivial (ref02_count_ok t hc) ?_
    by_cases h2 : 4096 < t.count
    · refine t_g @h2 ?_
      refine t_r ?_
      simp [go_sem, hP, hgl, hn, Tm.checkN, h, h2] <;> (try omega)
    · refine t_g @h2 ?_
      refine t_r ?_
      simp [go_sem, hP, hgl, hn, Tm.checkN, h, h2] <;> (try omega)
  · refine t_g @h ?_
    refine t_r ?_
    simp [go_sem, hP, hgl, hn, Tm.checkN, h] <;> (try omega)
end Go.Proofs.YtiacandbafjlfaaGreatDoor.Lift

namespace Go.Proofs.YtiacandbafjlfaaGreatDoor.Lift
set_option linter.unusedSimpArgs false
set_option linter.unusedVariables false
set_option linter.unnecessarySimpa false
open Go
variable {gl : Globs}

/-- the package's table of arities -/
def arEls : List (List DV) := ints [0, 0, 1, 2, 0, 1, 3, 0, 2, 3, 2, 1, 1, 0]
def known (k : Int) : Bool := decide (1 ≤ k) && decide (k ≤ 13)
theorem arityI_known (k : Int) : known k = decide (0 ≤ arityI k) := by
  unfold known arityI
  by_cases h : 1 ≤ k ∧ k ≤ 13
  · have : k = 1 ∨ k = 2 ∨ k = 3 ∨ k = 4 ∨ k = 5 ∨ k = 6 ∨ k = 7 ∨ k = 8 ∨ k = 9 ∨ k = 10 ∨ k = 11 ∨ k = 12 ∨ k = 13 := by omega
    rcases this with rfl | rfl | rfl | rfl | rfl | rfl | rfl | rfl | rfl | rfl | rfl | rfl | rfl <;> decide
  · rw [if_neg (by omega), if_neg (by omega), if_neg (by omega), if_neg (by omega)]
    simp; omega

theorem arity_ok (har : globOf gl 0 = some arEls) (k : Int) : Con1 Tryz.prog gl 131 [dint k] [] (.tup [dint (if known k = true then arityI k else 0), dbool (known k)]) [] := by
  refine t_in Tryz.func131 ?_
  intro X hP hgl hf hfn hn hR hids hfit
  have hk := har
  simp only [arEls, ints, List.map] at hk
  by_cases hs0 : k = 1
  · refine t_g (j2 @hs0 @hk) ?_
    refine t_r ?_
    simp [go_sem, hP, hgl, hn, known, arityI, hs0] <;> (try omega)
  by_cases hs1 : k = 2
  · refine t_g (j2 @hs1 @hk) ?_
    refine t_r ?_
    simp [go_sem, hP, hgl, hn, known, arityI, hs1] <;> (try omega)
  by_cases hs2 : k = 3
  · refine t_g (j2 @hs2 @hk) ?_
    refine t_r ?_
    simp [go_sem, hP, hgl, hn, known, arityI, hs2] <;> (try omega)
  by_cases hs3 : k = 4
  · refine t_g (j2 @hs3 @hk) ?_
    refine t_r ?_
    simp [go_sem, hP, hgl, hn, known, arityI, hs3] <;> (try omega)
  by_cases hs4 : k = 5
  · refine t_g (j2 @hs4 @hk) ?_
    refine t_r ?_
    simp [go_sem, hP, hgl, hn, known, arityI, hs4] <;> (try omega)
  by_cases hs5 : k = 6
  · refine t_g (j2 @hs5 @hk) ?_
    refine t_r ?_
    simp [go_sem, hP, hgl, hn, known, arityI, hs5] <;> (try omega)
  by_cases hs6 : k = 7
  · refine t_g (j2 @hs6 @hk) ?_
    refine t_r ?_
    simp [go_sem, hP, hgl, hn, known, arityI, hs6] <;> (try omega)
  by_cases hs7 : k = 8
  · refine t_g (j2 @hs7 @hk) ?_
    refine t_r ?_
    simp [go_sem, hP, hgl, hn, known, arityI, hs7] <;> (try omega)
  by_cases hs8 : k = 9
  · refine t_g (j2 @hs8 @hk) ?_
    refine t_r ?_
    simp [go_sem, hP, hgl, hn, known, arityI, hs8] <;> (try omega)
  by_cases hs9 : k = 10
  · refine t_g (j2 @hs9 @hk) ?_
    refine t_r ?_
    simp [go_sem, hP, hgl, hn, known, arityI, hs9] <;> (try omega)
  by_cases hs10 : k = 11
  · refine t_g (j2 @hs10 @hk) ?_
    refine t_r ?_
    simp [go_sem, hP, hgl, hn, known, arityI, hs10] <;> (try omega)
  by_cases hs11 : k = 12
  · refine t_g (j2 @hs11 @hk) ?_
    refine t_r ?_
    simp [go_sem, hP, hgl, hn, known, arityI, hs11] <;> (try omega)
  by_cases hs12 : k = 13
  · refine t_g (j2 @hs12 @hk) ?_
    refine t_r ?_
    simp [go_sem, hP, hgl, hn, known, arityI, hs12] <;> (try omega)
  by_cases hlo : k < 1
  · have : known k = false := by simp [known]; omega
    refine t_g @hlo ?_
    refine t_r ?_
    simp [go_sem, hP, hgl, hn, this] <;> (try omega)
  · have hhi : 14 ≤ k := by omega
    have : known k = false := by simp [known]; omega
    refine t_g (j2 @hlo @hhi) ?_
    refine t_r ?_
    simp [go_sem, hP, hgl, hn, this] <;> (try omega)

theorem typed_ok (k : Int) : Con1 Tryz.prog gl 132 [dint k] [] (dbool (decide (k = 2) || decide (k = 6) || decide (k = 9))) [] := by
  refine t_in Tryz.func132 ?_
  intro X hP hgl hf hfn hn hR hids hfit
  by_cases hs0 : k = 2
  · refine t_g @hs0 ?_
    refine t_r ?_
    simp [go_sem, hP, hgl, hn, hs0] <;> (try omega)
  by_cases hs1 : k = 6
  · refine t_g @hs1 ?_
    refine t_r ?_
    simp [go_sem, hP, hgl, hn, hs1] <;> (try omega)
  by_cases hs2 : k = 9
  · refine t_g @hs2 ?_
    refine t_r ?_
    simp [go_sem, hP, hgl, hn, hs2] <;> (try omega)
  refine t_g (j2 @hs0 (j2 @hs1 @hs2)) ?_
  refine t_r ?_
  simp [go_sem, hP, hgl, hn, hs0, hs1, hs2] <;> (try omega)

theorem notype_ok (t : Ty) : Con1 Tryz.prog gl 133 [t.dv] [] (dbool t.zero) [] := by
  refine t_in Tryz.func133 ?_
  intro X hP hgl hf hfn hn hR hids hfit
  by_cases h : t.kind = 0
  · refine t_g @h ?_
    refine t_r ?_
    simp [go_sem, hP, hgl, hn, Ty.zero, h] <;> (try omega)
  · refine t_g @h ?_
    refine t_r ?_
    simp [go_sem, hP, hgl, hn, Ty.zero, h] <;> (try omega)

def Ty.nodesR (t : Ty) : DV := .tup [dint (if t.shape = true then t.count else 0 : Nat), dbool t.shape]

theorem typenodes_ok (t : Ty) (hc : t.count ≤ 2147483648) : Con1 Tryz.prog gl 115 [t.dv] [] t.nodesR [] := by
  induction t using Ty.ind with
  | h t ih =>
  rw [Ty.count_eq] at hc
  refine t_in Tryz.func115 ?_
  intro X hP hgl hf hfn hn hR hids hfit
  have hlen := Ty.fit_len (hfit t.dv (by simp))
  have hs := Ty.shape_eq t
  have no : t.shape = false → t.nodesR = .tup [dint 0, dbool false] := fun h => by simp [Ty.nodesR, h]
  refine t_rg0 ?_
  refine t_rg0 ?_
  refine t_rg0 ?_
  repeat (first | refine W_seq ?_ | refine W_skip ?_ | refine W_inBlock ?_ | refine W_label ?_)
  refine W_cutP (t.kind = 1 ∨ t.kind = 2 ∨ t.kind = 5 ∨ t.kind = 3 ∨ t.kind = 4) [(.slot 4, .one (.v (dint (wantI t.kind)))), (.loc 1, .row ([.v (dint t.kind), .v (.sl (t.args.map Ty.cells))])), (.slot 1, .one (.loc 1 0))] ?_ ?_
  · intro hrest
    by_cases h1 : t.kind = 1
    · repeat (first | (refine W_sub [] (by simp [go_sem]) (by simp [go_sem, wantI, h1] <;> omega) (by simp [go_sem]) (hrest (by simp [h1]))) | refine W_seq ?_ | refine W_skip ?_ | refine W_block ?_ | refine W_inBlock ?_ | refine W_label ?_ | refine W_exit rfl ?_ | ((first | refine W_reg [] fun K hK => ?_ | refine W_regd (by rw [hP]; exact mixed) [] fun K hK => ?_); simp [go_sem, hP, hgl, hn, h1]; (repeat (refine ⟨by omega, ?_⟩)); (first | refine hK _ ?_ | refine ⟨by rfl, hK _ ?_⟩); clear hK K) | refine W_cond rfl (fun _ => ?_) (fun hq => False.elim (by first | (simp [h1]; done) | (simp [h1]; omega) | (simp [h1] at hq; done) | (simp [h1] at hq; omega))) | refine W_cond rfl (fun hq => False.elim (by first | (simp [h1]; done) | (simp [h1]; omega) | (simp [h1] at hq; done) | (simp [h1] at hq; omega))) (fun _ => ?_))
    by_cases h2 : t.kind = 2
    · repeat (first | (refine W_sub [] (by simp [go_sem]) (by simp [go_sem, wantI, h2] <;> omega) (by simp [go_sem]) (hrest (by simp [h2]))) | refine W_seq ?_ | refine W_skip ?_ | refine W_block ?_ | refine W_inBlock ?_ | refine W_label ?_ | refine W_exit rfl ?_ | ((first | refine W_reg [] fun K hK => ?_ | refine W_regd (by rw [hP]; exact mixed) [] fun K hK => ?_); simp [go_sem, hP, hgl, hn, h2]; (repeat (refine ⟨by omega, ?_⟩)); (first | refine hK _ ?_ | refine ⟨by rfl, hK _ ?_⟩); clear hK K) | refine W_cond rfl (fun _ => ?_) (fun hq => False.elim (by first | (simp [h2]; done) | (simp [h2]; omega) | (simp [h2] at hq; done) | (simp [h2] at hq; omega))) | refine W_cond rfl (fun hq => False.elim (by first | (simp [h2]; done) | (simp [h2]; omega) | (simp [h2] at hq; done) | (simp [h2] at hq; omega))) (fun _ => ?_))
    by_cases h3 : t.kind = 5
    · repeat (first | (refine W_sub [] (by simp [go_sem]) (by simp [go_sem, wantI, h3] <;> omega) (by simp [go_sem]) (hrest (by simp [h3]))) | refine W_seq ?_ | refine W_skip ?_ | refine W_block ?_ | refine W_inBlock ?_ | refine W_label ?_ | refine W_exit rfl ?_ | ((first | refine W_reg [] fun K hK => ?_ | refine W_regd (by rw [hP]; exact mixed) [] fun K hK => ?_); simp [go_sem, hP, hgl, hn, h3]; (repeat (refine ⟨by omega, ?_⟩)); (first | refine hK _ ?_ | refine ⟨by rfl, hK _ ?_⟩); clear hK K) | refine W_cond rfl (fun _ => ?_) (fun hq => False.elim (by first | (simp [h3]; done) | (simp [h3]; omega) | (simp [h3] at hq; done) | (simp [h3] at hq; omega))) | refine W_cond rfl (fun hq => False.elim (by first | (simp [h3]; done) | (simp [h3]; omega) | (simp [h3] at hq; done) | (simp [h3] at hq; omega))) (fun _ => ?_))
    by_cases h4 : t.kind = 3
    · repeat (first | (refine W_sub [] (by simp [go_sem]) (by simp [go_sem, wantI, h4] <;> omega) (by simp [go_sem]) (hrest (by simp [h4]))) | refine W_seq ?_ | refine W_skip ?_ | refine W_block ?_ | refine W_inBlock ?_ | refine W_label ?_ | refine W_exit rfl ?_ | ((first | refine W_reg [] fun K hK => ?_ | refine W_regd (by rw [hP]; exact mixed) [] fun K hK => ?_); simp [go_sem, hP, hgl, hn, h4]; (repeat (refine ⟨by omega, ?_⟩)); (first | refine hK _ ?_ | refine ⟨by rfl, hK _ ?_⟩); clear hK K) | refine W_cond rfl (fun _ => ?_) (fun hq => False.elim (by first | (simp [h4]; done) | (simp [h4]; omega) | (simp [h4] at hq; done) | (simp [h4] at hq; omega))) | refine W_cond rfl (fun hq => False.elim (by first | (simp [h4]; done) | (simp [h4]; omega) | (simp [h4] at hq; done) | (simp [h4] at hq; omega))) (fun _ => ?_))
    by_cases h5 : t.kind = 4
    · repeat (first | (refine W_sub [] (by simp [go_sem]) (by simp [go_sem, wantI, h5] <;> omega) (by simp [go_sem]) (hrest (by simp [h5]))) | refine W_seq ?_ | refine W_skip ?_ | refine W_block ?_ | refine W_inBlock ?_ | refine W_label ?_ | refine W_exit rfl ?_ | ((first | refine W_reg [] fun K hK => ?_ | refine W_regd (by rw [hP]; exact mixed) [] fun K hK => ?_); simp [go_sem, hP, hgl, hn, h5]; (repeat (refine ⟨by omega, ?_⟩)); (first | refine hK _ ?_ | refine ⟨by rfl, hK _ ?_⟩); clear hK K) | refine W_cond rfl (fun _ => ?_) (fun hq => False.elim (by first | (simp [h5]; done) | (simp [h5]; omega) | (simp [h5] at hq; done) | (simp [h5] at hq; omega))) | refine W_cond rfl (fun hq => False.elim (by first | (simp [h5]; done) | (simp [h5]; omega) | (simp [h5] at hq; done) | (simp [h5] at hq; omega))) (fun _ => ?_))
    have hz := no (by rw [hs]; simp [tyKind, h1, h2, h3, h4, h5])
    refine t_g (j2 @h1 (j2 @h2 (j2 @h3 (j2 @h4 @h5)))) ?_
    refine t_r ?_
    simp [go_sem, hP, hgl, hn, hz] <;> (try omega)
  · intro hk
    by_cases hl : (t.args.length : Int) = wantI t.kind
    · have hty : tyKind t.kind t.args.length = true := by
        unfold wantI at hl
        unfold tyKind
        rcases hk with h | h | h | h | h <;> simp [h] at hl ⊢ <;> omega
      refine t_g @hl ?_
      refine t_a ?_
      refine W_sub [] (by simp [go_sem]) (by simp [go_sem, Ty.count.counts] <;> omega) (by simp [go_sem]) (W_listI (t.args) (fun done => Ty.shape.shapes done = true) (fun done rest => [(.slot 5, .one (.v (dint (1 + Ty.count.counts done : Nat)))), (.slot 27, .one (.v (dint done.length))), (.slot 26, .one (.v (dint t.args.length))), (.slot 25, .one (.v (.sl (t.args.map Ty.cells))))]) (rfl) ?_ ?_)
      · intro done x rest hL hg hI hnext
        have hlt : done.length < t.args.length := by rw [hL]; simp
        have hcx : Ty.count.counts t.args = Ty.count.counts done + (x.count + Ty.count.counts rest) := by rw [hL, Ty.counts_append]; rfl
        rw [Ty.counts_append] at hnext
        refine t_rg0 ?_
        refine t_yes ?_
        refine t_rg @hg ?_
        by_cases hx : x.shape = true
        · refine t_a ?_
          first | refine W_reg [] fun K hK => ?_ | refine W_regd (by rw [hP]; exact mixed) [] fun K hK => ?_
          simp [go_sem, hP, hgl, hn, hg, Ty.nodesR, hx]
          repeat (refine ⟨by omega, ?_⟩)
          first | refine vcK_call hP hgl (ih x (List.mem_of_getElem? hg) (by omega)) (by simp [go_sem, hP, hgl, hn, hg, Ty.nodesR, hx]) rfl (by simp [go_sem]) (by simp) (by rw [hn]; exact Nat.le_of_ble_eq_true rfl) ?_ | refine vcdC_call (fun _ _ => vcd_sound) hP hgl (ih x (List.mem_of_getElem? hg) (by omega)) (by simp [go_sem, hP, hgl, hn, hg, Ty.nodesR, hx]) rfl (by simp [go_sem]) (by simp) (by rw [hn]; exact Nat.le_of_ble_eq_true rfl) ?_ | refine vcK_callG hP hgl (ih x (List.mem_of_getElem? hg) (by omega)) (by simp [go_sem, hP, hgl, hn, hg, Ty.nodesR, hx]) rfl (by simp [go_sem]) (by simp) (by rw [hn]; exact Nat.le_of_ble_eq_true rfl) (by simp [go_sem]; rfl) (by rw [hn]; exact Nat.le_of_ble_eq_true rfl) (by simp [go_sem]) ?_ | refine vcdC_callG (fun _ _ => vcd_sound) hP hgl (ih x (List.mem_of_getElem? hg) (by omega)) (by simp [go_sem, hP, hgl, hn, hg, Ty.nodesR, hx]) rfl (by simp [go_sem]) (by simp) (by rw [hn]; exact Nat.le_of_ble_eq_true rfl) (by simp [go_sem]; rfl) (by rw [hn]; exact Nat.le_of_ble_eq_true rfl) (by simp [go_sem]) ?_
          simp [go_sem, hP, hgl, hn, hg, Ty.nodesR, hx]
          refine t_e ?_
          clear hK K
          repeat (first | (refine W_sub [] (by simp [go_sem]) (by simp [go_sem, Ty.count.counts] <;> omega) (by simp [go_sem]) (hnext (by rw [Ty.shapes_append]; simp [hI, Ty.shape.shapes, hx]))) | refine W_seq ?_ | refine W_skip ?_ | refine W_block ?_ | refine W_inBlock ?_ | refine W_label ?_ | refine W_exit rfl ?_ | ((first | refine W_reg [] fun K hK => ?_ | refine W_regd (by rw [hP]; exact mixed) [] fun K hK => ?_); simp [go_sem, hP, hgl, hn, hx]; (repeat (refine ⟨by omega, ?_⟩)); (first | refine hK _ ?_ | refine ⟨by rfl, hK _ ?_⟩); clear hK K) | refine W_cond rfl (fun _ => ?_) (fun hq => False.elim (by first | (simp [hx]; done) | (simp [hx]; omega) | (simp [hx] at hq; done) | (simp [hx] at hq; omega))) | refine W_cond rfl (fun hq => False.elim (by first | (simp [hx]; done) | (simp [hx]; omega) | (simp [hx] at hq; done) | (simp [hx] at hq; omega))) (fun _ => ?_))
        · have hz := no (by rw [hs, hL, Ty.shapes_append]; simp [Ty.shape.shapes, hx])
          refine t_a ?_
          first | refine W_reg [] fun K hK => ?_ | refine W_regd (by rw [hP]; exact mixed) [] fun K hK => ?_
          simp [go_sem, hP, hgl, hn, hg, Ty.nodesR, hx]
          repeat (refine ⟨by omega, ?_⟩)
          first | refine vcK_call hP hgl (ih x (List.mem_of_getElem? hg) (by omega)) (by simp [go_sem, hP, hgl, hn, hg, Ty.nodesR, hx]) rfl (by simp [go_sem]) (by simp) (by rw [hn]; exact Nat.le_of_ble_eq_true rfl) ?_ | refine vcdC_call (fun _ _ => vcd_sound) hP hgl (ih x (List.mem_of_getElem? hg) (by omega)) (by simp [go_sem, hP, hgl, hn, hg, Ty.nodesR, hx]) rfl (by simp [go_sem]) (by simp) (by rw [hn]; exact Nat.le_of_ble_eq_true rfl) ?_ | refine vcK_callG hP hgl (ih x (List.mem_of_getElem? hg) (by omega)) (by simp [go_sem, hP, hgl, hn, hg, Ty.nodesR, hx]) rfl (by simp [go_sem]) (by simp) (by rw [hn]; exact Nat.le_of_ble_eq_true rfl) (by simp [go_sem]; rfl) (by rw [hn]; exact Nat.le_of_ble_eq_true rfl) (by simp [go_sem]) ?_ | refine vcdC_callG (fun _ _ => vcd_sound) hP hgl (ih x (List.mem_of_getElem? hg) (by omega)) (by simp [go_sem, hP, hgl, hn, hg, Ty.nodesR, hx]) rfl (by simp [go_sem]) (by simp) (by rw [hn]; exact Nat.le_of_ble_eq_true rfl) (by simp [go_sem]; rfl) (by rw [hn]; exact Nat.le_of_ble_eq_true rfl) (by simp [go_sem]) ?_
          simp [go_sem, hP, hgl, hn, hg, Ty.nodesR, hx]
          refine t_e ?_
          clear hK K
          refine t_g @hx ?_
          refine t_r ?_
          simp [go_sem, hP, hgl, hn, hz] <;> (try omega)
      · intro hI
        have hz : t.nodesR = .tup [dint t.count, dbool true] := by simp [Ty.nodesR, hs, hty, hI]
        refine t_rg0 ?_
        refine t_no ?_
        refine t_g0 ?_
        refine t_r ?_
        simp [go_sem, hP, hgl, hn, hz, Ty.count_eq] <;> (try omega)
    · have hz := no (by
        rw [hs]
        have : tyKind t.kind t.args.length = false := by
          unfold wantI at hl
          unfold tyKind
          rcases hk with h | h | h | h | h <;> simp [h] at hl ⊢ <;> omega
        simp [this])
      refine t_g @hl ?_
      refine t_r ?_
      simp [go_sem, hP, hgl, hn, hz] <;> (try omega)

theorem checktype_ok (t : Ty) (hc : t.count ≤ 2147483648) : Con1 Tryz.prog gl 76 [t.dv] [] (.tup [dint (if t.checkN = 0 then t.count else 0 : Nat), dint t.checkN]) [] := by
  refine t_in Tryz.func76 ?_
  intro X hP hgl hf hfn hn hR hids hfit
  refine t_g0 ?_
  by_cases h : t.shape = true
  · refine t_a ?_
    first | refine W_reg [] fun K hK => ?_ | refine W_regd (by rw [hP]; exact mixed) [] fun K hK => ?_
    simp [go_sem, hP, hgl, hn, Ty.nodesR, h]
    repeat (refine ⟨by omega, ?_⟩)
    first | refine vcK_call hP hgl (typenodes_ok t hc) (by simp [go_sem, hP, hgl, hn, Ty.nodesR, h]) rfl (by simp [go_sem]) (by simp) (by rw [hn]; exact Nat.le_of_ble_eq_true rfl) ?_ | refine vcdC_call (fun _ _ => vcd_sound) hP hgl (typenodes_ok t hc) (by simp [go_sem, hP, hgl, hn, Ty.nodesR, h]) rfl (by simp [go_sem]) (by simp) (by rw [hn]; exact Nat.le_of_ble_eq_true rfl) ?_ | refine vcK_callG hP hgl (typenodes_ok t hc) (by simp [go_sem, hP, hgl, hn, Ty.nodesR, h]) rfl (by simp [go_sem]) (by simp) (by rw [hn]; exact Nat.le_of_ble_eq_true rfl) (by simp [go_sem]; rfl) (by rw [hn]; exact Nat.le_of_ble_eq_true rfl) (by simp [go_sem]) ?_ | refine vcdC_callG (fun _ _ => vcd_sound) hP hgl (typenodes_ok t hc) (by simp [go_sem, hP, hgl, hn, Ty.nodesR, h]) rfl (by simp [go_sem]) (by simp) (by rw [hn]; exact Nat.le_of_ble_eq_true rfl) (by simp [go_sem]; rfl) (by rw [hn]; exact Nat.le_of_ble_eq_true rfl) (by simp [go_sem]) ?_
    simp [go_sem, hP, hgl, hn, Ty.nodesR, h]
    refine t_e ?_
    clear hK K
    by_cases h2 : 64 < t.count
    · refine t_g (j2 @h @h2) ?_
      refine t_r ?_
      simp [go_sem, hP, hgl, hn, Ty.checkN, h, h2] <;> (try omega)
    · refine t_g (j2 @h @h2) ?_
      refine t_r ?_
      simp [go_sem, hP, hgl, hn, Ty.checkN, h, h2] <;> (try omega)
  · refine t_a ?_
    first | refine W_reg [] fun K hK => ?_ | refine W_regd (by rw [hP]; exact mixed) [] fun K hK => ?_
    simp [go_sem, hP, hgl, hn, Ty.nodesR, h]
    repeat (refine ⟨by omega, ?_⟩)
    first | refine vcK_call hP hgl (typenodes_ok t hc) (by simp [go_sem, hP, hgl, hn, Ty.nodesR, h]) rfl (by simp [go_sem]) (by simp) (by rw [hn]; exact Nat.le_of_ble_eq_true rfl) ?_ | refine vcdC_call (fun _ _ => vcd_sound) hP hgl (typenodes_ok t hc) (by simp [go_sem, hP, hgl, hn, Ty.nodesR, h]) rfl (by simp [go_sem]) (by simp) (by rw [hn]; exact Nat.le_of_ble_eq_true rfl) ?_ | refine vcK_callG hP hgl (typenodes_ok t hc) (by simp [go_sem, hP, hgl, hn, Ty.nodesR, h]) rfl (by simp [go_sem]) (by simp) (by rw [hn]; exact Nat.le_of_ble_eq_true rfl) (by simp [go_sem]; rfl) (by rw [hn]; exact Nat.le_of_ble_eq_true rfl) (by simp [go_sem]) ?_ | refine vcdC_callG (fun _ _ => vcd_sound) hP hgl (typenodes_ok t hc) (by simp [go_sem, hP, hgl, hn, Ty.nodesR, h]) rfl (by simp [go_sem]) (by simp) (by rw [hn]; exact Nat.le_of_ble_eq_true rfl) (by simp [go_sem]; rfl) (by rw [hn]; exact Nat.le_of_ble_eq_true rfl) (by simp [go_sem]) ?_
    simp [go_sem, hP, hgl, hn, Ty.nodesR, h]
    refine t_e ?_
    clear hK K
    refine t_g @h ?_
    refine t_r ?_
    simp [go_sem, hP, hgl, hn, Ty.checkN, h] <;> (try omega)

def okNodeP (t : Tm) : Bool := known t.kind && decide ((t.args.length : Int) = arityI t.kind) && decide (0 ≤ t.index) && (decide (t.index = 0) || decide (t.kind = 1))
theorem okNodeP_eq (t : Tm) : okNodeP t = okNode t := by
  unfold okNodeP okNode
  rw [arityI_known]
  cases h : decide ((t.args.length : Int) = arityI t.kind) with
  | false => simp
  | true =>
    have h1 : (t.args.length : Int) = arityI t.kind := by simpa using h
    have : decide (0 ≤ arityI t.kind) = true := by simp; omega
    rw [this]
    cases decide (0 ≤ t.index) <;> cases decide (t.index = 0) <;> cases decide (t.kind = 1) <;> rfl

def Tm.nodesR (t : Tm) : DV := .tup [dint (if t.shape = true then t.count else 0 : Nat), dbool t.shape]

theorem termnodes_ok (har : globOf gl 0 = some arEls) (t : Tm) (ht : t.tys) (hc : t.count ≤ 2147483648) : Con1 Tryz.prog gl 116 [t.dv] [] t.nodesR [] := by
  induction t using Tm.ind with
  | h t ih =>
  obtain ⟨ht1, ht2⟩ := (Tm.tys_eq t).1 ht
  rw [Tm.count_eq] at hc
  refine t_in Tryz.func116 ?_
  intro X hP hgl hf hfn hn hR hids hfit
  have hlen := Tm.fit_len (hfit t.dv (by simp))
  have hs := Tm.shape_eq t
  have no : t.shape = false → t.nodesR = .tup [dint 0, dbool false] := fun h => by simp [Tm.nodesR, h]
  refine t_g0 ?_
  refine t_c1 trivial (arity_ok har t.kind) ?_
  repeat (first | refine W_seq ?_ | refine W_skip ?_ | refine W_inBlock ?_ | refine W_label ?_)
  refine W_cut [(.slot 42, .one (.v (dbool (!okNodeP t)))), (.loc 1, .row ([.v (dint t.kind), .v (dint t.index), .v (dint t.type.kind), .v (.sl (t.type.args.map Ty.cells)), .v (.sl (t.args.map Tm.cells))])), (.slot 1, .one (.loc 1 0))] ?_ ?_
  · intro hrest
    by_cases h0 : known t.kind = true
    · by_cases hA : (t.args.length : Int) = arityI t.kind
      · by_cases hB : t.index < 0
        · refine t_rg (j2 @h0 (j2 @hA @hB)) ?_
          repeat (first | refine W_inBlock ?_ | refine W_skip ?_ | refine W_label ?_ | refine W_exit rfl ?_)
          refine W_sub [] (by simp [go_sem]) (by simp [go_sem, okNodeP, h0, hA, hB] <;> omega) (by simp [go_sem]) hrest
        · by_cases hD : t.index = 0
          · refine t_rg (j2 @h0 (j2 @hA (j2 @hB @hD))) ?_
            repeat (first | refine W_inBlock ?_ | refine W_skip ?_ | refine W_label ?_ | refine W_exit rfl ?_)
            refine W_sub [] (by simp [go_sem]) (by simp [go_sem, okNodeP, h0, hA, hB, hD] <;> omega) (by simp [go_sem]) hrest
          · by_cases hC : t.kind = 1
            · have h01 : known 1 = true := rfl
              refine t_rg (j2 @h0 (j2 @hA (j2 @hB (j2 @hD (j2 @hC @h01))))) ?_
              repeat (first | refine W_inBlock ?_ | refine W_skip ?_ | refine W_label ?_ | refine W_exit rfl ?_)
              refine W_sub [] (by simp [go_sem]) (by simp [go_sem, okNodeP, h0, hA, hB, hD, hC, h01] <;> omega) (by simp [go_sem]) hrest
            · refine t_rg (j2 @h0 (j2 @hA (j2 @hB (j2 @hD @hC)))) ?_
              repeat (first | refine W_inBlock ?_ | refine W_skip ?_ | refine W_label ?_ | refine W_exit rfl ?_)
              refine W_sub [] (by simp [go_sem]) (by simp [go_sem, okNodeP, h0, hA, hB, hD, hC] <;> omega) (by simp [go_sem]) hrest
      · refine t_rg (j2 @h0 @hA) ?_
        repeat (first | refine W_inBlock ?_ | refine W_skip ?_ | refine W_label ?_ | refine W_exit rfl ?_)
        refine W_sub [] (by simp [go_sem]) (by simp [go_sem, okNodeP, h0, hA] <;> omega) (by simp [go_sem]) hrest
    · refine t_rg @h0 ?_
      repeat (first | refine W_inBlock ?_ | refine W_skip ?_ | refine W_label ?_ | refine W_exit rfl ?_)
      refine W_sub [] (by simp [go_sem]) (by simp [go_sem, okNodeP, h0] <;> omega) (by simp [go_sem]) hrest
  · rw [okNodeP_eq]
    by_cases hok : okNode t = true
    · have hk : tmKind t.kind t.index t.type t.args.length = tyOfKind t.kind t.type := by
        simp only [okNode, Bool.and_eq_true, decide_eq_true_eq] at hok
        simp [tmKind, hok]
      refine t_n @hok ?_
      refine t_c1 trivial (typed_ok t.kind) ?_
      repeat (first | refine W_seq ?_ | refine W_skip ?_ | refine W_inBlock ?_ | refine W_label ?_)
      refine W_cutP (tyOfKind t.kind t.type = true) [(.loc 1, .row ([.v (dint t.kind), .v (dint t.index), .v (dint t.type.kind), .v (.sl (t.type.args.map Ty.cells)), .v (.sl (t.args.map Tm.cells))])), (.slot 1, .one (.loc 1 0))] ?_ ?_
      · intro hrest
        by_cases k2 : t.kind = 2
        · refine t_g @k2 ?_
          refine t_c1 trivial (checktype_ok t.type (by omega)) ?_
          by_cases hc : t.type.checkN = 0
          · refine t_gt (wr []) @k2 (j2 @k2 @hc) (hrest (by simp [tyOfKind, k2, hc]))
          · have hz := no (by rw [hs, hk]; simp [tyOfKind, k2, hc])
            refine t_g @hc ?_
            refine t_r ?_
            simp [go_sem, hP, hgl, hn, hz] <;> (try omega)
        by_cases k6 : t.kind = 6
        · refine t_g @k6 ?_
          refine t_c1 trivial (checktype_ok t.type (by omega)) ?_
          by_cases hc : t.type.checkN = 0
          · refine t_gt (wr []) @k6 (j2 @k6 @hc) (hrest (by simp [tyOfKind, k6, hc]))
          · have hz := no (by rw [hs, hk]; simp [tyOfKind, k6, hc])
            refine t_g @hc ?_
            refine t_r ?_
            simp [go_sem, hP, hgl, hn, hz] <;> (try omega)
        by_cases k9 : t.kind = 9
        · refine t_g @k9 ?_
          refine t_c1 trivial (checktype_ok t.type (by omega)) ?_
          by_cases hc : t.type.checkN = 0
          · refine t_gt (wr []) @k9 (j2 @k9 @hc) (hrest (by simp [tyOfKind, k9, hc]))
          · have hz := no (by rw [hs, hk]; simp [tyOfKind, k9, hc])
            refine t_g @hc ?_
            refine t_r ?_
            simp [go_sem, hP, hgl, hn, hz] <;> (try omega)
        refine t_g (j2 @k2 (j2 @k6 @k9)) ?_
        refine t_c1 trivial (notype_ok t.type) ?_
        by_cases hc : t.type.zero = true
        · refine t_gt (wr []) trivial @hc (hrest (by simp [tyOfKind, k2, k6, k9, hc]))
        · have hz := no (by rw [hs, hk]; simp [tyOfKind, k2, k6, k9, hc])
          refine t_g @hc ?_
          refine t_r ?_
          simp [go_sem, hP, hgl, hn, hz] <;> (try omega)
      · intro hty
        refine t_g0 ?_
        refine t_a ?_
        refine W_sub [] (by simp [go_sem]) (by simp [go_sem, Tm.count.counts] <;> omega) (by simp [go_sem]) (W_listI (t.args) (fun done => Tm.shape.shapes done = true) (fun done rest => [(.slot 8, .one (.v (dint (1 + Tm.count.counts done : Nat)))), (.slot 61, .one (.v (dint done.length))), (.slot 60, .one (.v (dint t.args.length))), (.slot 59, .one (.v (.sl (t.args.map Tm.cells))))]) (rfl) ?_ ?_)
        · intro done x rest hL hg hI hnext
          have hlt : done.length < t.args.length := by rw [hL]; simp
          have hcx : Tm.count.counts t.args = Tm.count.counts done + (x.count + Tm.count.counts rest) := by rw [hL, Tm.counts_append]; rfl
          rw [Tm.counts_append] at hnext
          refine t_rg0 ?_
          refine t_yes ?_
          refine t_rg @hg ?_
          by_cases hx : x.shape = true
          · refine t_a ?_
            first | refine W_reg [] fun K hK => ?_ | refine W_regd (by rw [hP]; exact mixed) [] fun K hK => ?_
            simp [go_sem, hP, hgl, hn, hg, Tm.nodesR, hx]
            repeat (refine ⟨by omega, ?_⟩)
            first | refine vcK_call hP hgl (ih x (List.mem_of_getElem? hg) (ht2 x (List.mem_of_getElem? hg)) (by omega)) (by simp [go_sem, hP, hgl, hn, hg, Tm.nodesR, hx]) rfl (by simp [go_sem]) (by simp) (by rw [hn]; exact Nat.le_of_ble_eq_true rfl) ?_ | refine vcdC_call (fun _ _ => vcd_sound) hP hgl (ih x (List.mem_of_getElem? hg) (ht2 x (List.mem_of_getElem? hg)) (by omega)) (by simp [go_sem, hP, hgl, hn, hg, Tm.nodesR, hx]) rfl (by simp [go_sem]) (by simp) (by rw [hn]; exact Nat.le_of_ble_eq_true rfl) ?_ | refine vcK_callG hP hgl (ih x (List.mem_of_getElem? hg) (ht2 x (List.mem_of_getElem? hg)) (by omega)) (by simp [go_sem, hP, hgl, hn, hg, Tm.nodesR, hx]) rfl (by simp [go_sem]) (by simp) (by rw [hn]; exact Nat.le_of_ble_eq_true rfl) (by simp [go_sem]; rfl) (by rw [hn]; exact Nat.le_of_ble_eq_true rfl) (by simp [go_sem]) ?_ | refine vcdC_callG (fun _ _ => vcd_sound) hP hgl (ih x (List.mem_of_getElem? hg) (ht2 x (List.mem_of_getElem? hg)) (by omega)) (by simp [go_sem, hP, hgl, hn, hg, Tm.nodesR, hx]) rfl (by simp [go_sem]) (by simp) (by rw [hn]; exact Nat.le_of_ble_eq_true rfl) (by simp [go_sem]; rfl) (by rw [hn]; exact Nat.le_of_ble_eq_true rfl) (by simp [go_sem]) ?_
            simp [go_sem, hP, hgl, hn, hg, Tm.nodesR, hx]
            refine t_e ?_
            clear hK K
            repeat (first | (refine W_sub [] (by simp [go_sem]) (by simp [go_sem, Tm.count.counts] <;> omega) (by simp [go_sem]) (hnext (by rw [Tm.shapes_append]; simp [hI, Tm.shape.shapes, hx]))) | refine W_seq ?_ | refine W_skip ?_ | refine W_block ?_ | refine W_inBlock ?_ | refine W_label ?_ | refine W_exit rfl ?_ | ((first | refine W_reg [] fun K hK => ?_ | refine W_regd (by rw [hP]; exact mixed) [] fun K hK => ?_); simp [go_sem, hP, hgl, hn, hx]; (repeat (refine ⟨by omega, ?_⟩)); (first | refine hK _ ?_ | refine ⟨by rfl, hK _ ?_⟩); clear hK K) | refine W_cond rfl (fun _ => ?_) (fun hq => False.elim (by first | (simp [hx]; done) | (simp [hx]; omega) | (simp [hx] at hq; done) | (simp [hx] at hq; omega))) | refine W_cond rfl (fun hq => False.elim (by first | (simp [hx]; done) | (simp [hx]; omega) | (simp [hx] at hq; done) | (simp [hx] at hq; omega))) (fun _ => ?_))
          · have hz := no (by rw [hs, hL, Tm.shapes_append]; simp [Tm.shape.shapes, hx])
            refine t_a ?_
            first | refine W_reg [] fun K hK => ?_ | refine W_regd (by rw [hP]; exact mixed) [] fun K hK => ?_
            simp [go_sem, hP, hgl, hn, hg, Tm.nodesR, hx]
            repeat (refine ⟨by omega, ?_⟩)
            first | refine vcK_call hP hgl (ih x (List.mem_of_getElem? hg) (ht2 x (List.mem_of_getElem? hg)) (by omega)) (by simp [go_sem, hP, hgl, hn, hg, Tm.nodesR, hx]) rfl (by simp [go_sem]) (by simp) (by rw [hn]; exact Nat.le_of_ble_eq_true rfl) ?_ | refine vcdC_call (fun _ _ => vcd_sound) hP hgl (ih x (List.mem_of_getElem? hg) (ht2 x (List.mem_of_getElem? hg)) (by omega)) (by simp [go_sem, hP, hgl, hn, hg, Tm.nodesR, hx]) rfl (by simp [go_sem]) (by simp) (by rw [hn]; exact Nat.le_of_ble_eq_true rfl) ?_ | refine vcK_callG hP hgl (ih x (List.mem_of_getElem? hg) (ht2 x (List.mem_of_getElem? hg)) (by omega)) (by simp [go_sem, hP, hgl, hn, hg, Tm.nodesR, hx]) rfl (by simp [go_sem]) (by simp) (by rw [hn]; exact Nat.le_of_ble_eq_true rfl) (by simp [go_sem]; rfl) (by rw [hn]; exact Nat.le_of_ble_eq_true rfl) (by simp [go_sem]) ?_ | refine vcdC_callG (fun _ _ => vcd_sound) hP hgl (ih x (List.mem_of_getElem? hg) (ht2 x (List.mem_of_getElem? hg)) (by omega)) (by simp [go_sem, hP, hgl, hn, hg, Tm.nodesR, hx]) rfl (by simp [go_sem]) (by simp) (by rw [hn]; exact Nat.le_of_ble_eq_true rfl) (by simp [go_sem]; rfl) (by rw [hn]; exact Nat.le_of_ble_eq_true rfl) (by simp [go_sem]) ?_
            simp [go_sem, hP, hgl, hn, hg, Tm.nodesR, hx]
            refine t_e ?_
            clear hK K
            refine t_g @hx ?_
            refine t_r ?_
            simp [go_sem, hP, hgl, hn, hz] <;> (try omega)
        · intro hI
          have hz : t.nodesR = .tup [dint t.count, dbool true] := by simp [Tm.nodesR, hs, hk, hty, hI]
          refine t_rg0 ?_
          refine t_no ?_
          refine t_g0 ?_
          refine t_r ?_
          simp [go_sem, hP, hgl, hn, hz, Tm.count_eq] <;> (try omega)
    · have hk : tmKind t.kind t.index t.type t.args.length = false := by
        simp only [okNode, Bool.and_eq_true, decide_eq_true_eq] at hok
        simp only [tmKind]
        cases hh : (decide ((t.args.length : Int) = arityI t.kind) && decide (0 ≤ t.index) && (decide (t.kind = 1) || decide (t.index = 0))) with
        | true => exact absurd (by simpa using hh) hok
        | false => rfl
      have hz := no (by rw [hs, hk]; rfl)
      refine t_g @hok ?_
      refine t_r ?_
      simp [go_sem, hP, hgl, hn, hz] <;> (try omega)
end Go.Proofs.YtiacandbafjlfaaGreatDoor.Lift

namespace Go.Proofs.YtiacandbafjlfaaGreatDoor.Lift
set_option linter.unusedSimpArgs false
set_option linter.unusedVariables false
set_option linter.unnecessarySimpa false
open Go
variable {gl : Globs}

theorem checkterm_ok (har : globOf gl 0 = some arEls) (t : Tm) (ht : t.tys) (hc : t.count ≤ 2147483648) : Con1 Tryz.prog gl 81 [t.dv] [] (.tup [dint (if t.checkN = 0 then t.count else 0 : Nat), dint t.checkN]) [] := by
  refine t_in Tryz.func81 ?_
  intro X hP hgl hf hfn hn hR hids hfit
  refine t_g0 ?_
  by_cases h : t.shape = true
  · refine t_a ?_
    first | refine W_reg [] fun K hK => ?_ | refine W_regd (by rw [hP]; exact mixed) [] fun K hK => ?_
    simp [go_sem, hP, hgl, hn, Tm.nodesR, h]
    repeat (refine ⟨by omega, ?_⟩)
    first | refine vcK_call hP hgl (termnodes_ok har t ht hc) (by simp [go_sem, hP, hgl, hn, Tm.nodesR, h]) rfl (by simp [go_sem]) (by simp) (by rw [hn]; exact Nat.le_of_ble_eq_true rfl) ?_ | refine vcdC_call (fun _ _ => vcd_sound) hP hgl (termnodes_ok har t ht hc) (by simp [go_sem, hP, hgl, hn, Tm.nodesR, h]) rfl (by simp [go_sem]) (by simp) (by rw [hn]; exact Nat.le_of_ble_eq_true rfl) ?_ | refine vcK_callG hP hgl (termnodes_ok har t ht hc) (by simp [go_sem, hP, hgl, hn, Tm.nodesR, h]) rfl (by simp [go_sem]) (by simp) (by rw [hn]; exact Nat.le_of_ble_eq_true rfl) (by simp [go_sem]; rfl) (by rw [hn]; exact Nat.le_of_ble_eq_true rfl) (by simp [go_sem]) ?_ | refine vcdC_callG (fun _ _ => vcd_sound) hP hgl (termnodes_ok har t ht hc) (by simp [go_sem, hP, hgl, hn, Tm.nodesR, h]) rfl (by simp [go_sem]) (by simp) (by rw [hn]; exact Nat.le_of_ble_eq_true rfl) (by simp [go_sem]; rfl) (by rw [hn]; exact Nat.le_of_ble_eq_true rfl) (by simp [go_sem]) ?_
    simp [go_sem, hP, hgl, hn, Tm.nodesR, h]
    refine t_e ?_
    clear hK K
    by_cases h2 : 4096 < t.count
    · refine t_g (j2 @h @h2) ?_
      refine t_r ?_
      simp [go_sem, hP, hgl, hn, Tm.checkN, h, h2] <;> (try omega)
    · refine t_g (j2 @h @h2) ?_
      refine t_r ?_
      simp [go_sem, hP, hgl, hn, Tm.checkN, h, h2] <;> (try omega)
  · refine t_a ?_
    first | refine W_reg [] fun K hK => ?_ | refine W_regd (by rw [hP]; exact mixed) [] fun K hK => ?_
    simp [go_sem, hP, hgl, hn, Tm.nodesR, h]
    repeat (refine ⟨by omega, ?_⟩)
    first | refine vcK_call hP hgl (termnodes_ok har t ht hc) (by simp [go_sem, hP, hgl, hn, Tm.nodesR, h]) rfl (by simp [go_sem]) (by simp) (by rw [hn]; exact Nat.le_of_ble_eq_true rfl) ?_ | refine vcdC_call (fun _ _ => vcd_sound) hP hgl (termnodes_ok har t ht hc) (by simp [go_sem, hP, hgl, hn, Tm.nodesR, h]) rfl (by simp [go_sem]) (by simp) (by rw [hn]; exact Nat.le_of_ble_eq_true rfl) ?_ | refine vcK_callG hP hgl (termnodes_ok har t ht hc) (by simp [go_sem, hP, hgl, hn, Tm.nodesR, h]) rfl (by simp [go_sem]) (by simp) (by rw [hn]; exact Nat.le_of_ble_eq_true rfl) (by simp [go_sem]; rfl) (by rw [hn]; exact Nat.le_of_ble_eq_true rfl) (by simp [go_sem]) ?_ | refine vcdC_callG (fun _ _ => vcd_sound) hP hgl (termnodes_ok har t ht hc) (by simp [go_sem, hP, hgl, hn, Tm.nodesR, h]) rfl (by simp [go_sem]) (by simp) (by rw [hn]; exact Nat.le_of_ble_eq_true rfl) (by simp [go_sem]; rfl) (by rw [hn]; exact Nat.le_of_ble_eq_true rfl) (by simp [go_sem]) ?_
    simp [go_sem, hP, hgl, hn, Tm.nodesR, h]
    refine t_e ?_
    clear hK K
    refine t_g @h ?_
    refine t_r ?_
    simp [go_sem, hP, hgl, hn, Tm.checkN, h] <;> (try omega)

theorem termscheck_ok (har : globOf gl 0 = some arEls) (t : Tm) (ht : t.tys) (hc : t.count ≤ 2147483648) : Con1 Tryz.prog gl 45 [t.dv] [] (dint t.checkN) [] := by
  refine t_in Tryz.func45 ?_
  intro X hP hgl hf hfn hn hR hids hfit
  refine t_g0 ?_
  refine t_c1 trivial (checkterm_ok har t ht hc) ?_
  refine t_g0 ?_
  refine t_r ?_
  simp [go_sem, hP, hgl, hn] <;> (try omega)

def zeroV : Val := Val.mk 0 0 [] []

end Go.Proofs.YtiacandbafjlfaaGreatDoor.Lift

namespace Go.Proofs.YtiacandbafjlfaaGreatDoor.Lift
set_option linter.unusedSimpArgs false
set_option linter.unusedVariables false
set_option linter.unnecessarySimpa false
open Go
variable {gl : Globs}

theorem nat_ok : Con1 Tryz.prog gl 146 [] [] (Ty.mk 1 []).dv [] := by
  refine t_in Tryz.func146 ?_
  intro X hP hgl hf hfn hn hR hids hfit
  refine t_g0 ?_
  refine t_r ?_
  simp [go_sem, hP, hgl, hn] <;> (try omega)
  all_goals exact t_f

/-- the type of a valid value -/
def Val.tyN : Val → Ty
  | .mk k _ _ a => if k = 2 then Ty.mk 2 [] else if k = 4 then Ty.mk 5 [] else if k = 3 then Ty.mk 3 (tys a) else Ty.mk 1 []
where
  tys : List Val → List Ty
    | [] => []
    | a :: r => a.tyN :: tys r
theorem Val.tys_map (l : List Val) : tyN.tys l = l.map Val.tyN := by
  induction l with
  | nil => rfl
  | cons a r ih => simp [tyN.tys, ih]
theorem Val.tyN_eq (v : Val) : v.tyN = if v.kind = 2 then Ty.mk 2 [] else if v.kind = 4 then Ty.mk 5 [] else if v.kind = 3 then Ty.mk 3 (v.args.map Val.tyN) else Ty.mk 1 [] := by
  cases v; rw [tyN, tys_map]; rfl

end Go.Proofs.YtiacandbafjlfaaGreatDoor.Lift

namespace Go.Proofs.YtiacandbafjlfaaGreatDoor.Lift
set_option linter.unusedSimpArgs false
set_option linter.unusedVariables false
set_option linter.unnecessarySimpa false
open Go
variable {gl : Globs}

/-- lengths of a list's numbers, until they are too many -/
def lenL : List Int → Int → Int × Bool
  | [], n => (n, false)
  | x :: r, n => if 4096 < n + (1 + sizeI x) then (n + (1 + sizeI x), true) else lenL r (n + (1 + sizeI x))

def Val.lengthN : Val → Int
  | .mk k n l a =>
    if k = 1 then lengths a (sizeI n)
    else if k = 2 then (if (lenL l 1).2 = true then (lenL l 1).1 else lengths a (lenL l 1).1)
    else lengths a 1
where
  lengths : List Val → Int → Int
    | [], n => n
    | a :: r, n => lengths r (n + a.lengthN)
theorem Val.lengthN_eq (v : Val) : v.lengthN = if v.kind = 1 then lengthN.lengths v.args (sizeI v.num)
    else if v.kind = 2 then (if (lenL v.list 1).2 = true then (lenL v.list 1).1 else lengthN.lengths v.args (lenL v.list 1).1)
    else lengthN.lengths v.args 1 := by cases v; rw [lengthN]; rfl
/-- no negative numbers -/
def Val.pos (v : Val) : Prop := 0 ≤ v.num ∧ ∀ n ∈ v.list, (0 : Int) ≤ n
def Val.allPos : Val → Prop
  | .mk k n l a => Val.pos (.mk k n l a) ∧ poss a
where
  poss : List Val → Prop
    | [] => True
    | a :: r => a.allPos ∧ poss r
theorem Val.poss_iff (l : List Val) : allPos.poss l ↔ ∀ a ∈ l, a.allPos := by
  induction l with
  | nil => simp [allPos.poss]
  | cons a r ih => simp [allPos.poss, ih]
theorem Val.allPos_eq (v : Val) : v.allPos ↔ v.pos ∧ ∀ a ∈ v.args, a.allPos := by
  cases v; simp only [allPos, poss_iff, args]

theorem sizeI_bd {n : Int} (h : 0 ≤ n) : 1 ≤ sizeI n ∧ sizeI n ≤ 4097 := by unfold sizeI; omega

theorem lenL_bd : ∀ (l : List Int) (n : Int), (∀ x ∈ l, 0 ≤ x) → n ≤ 4096 → n ≤ (lenL l n).1 ∧ (lenL l n).1 ≤ 8194
  | [], n, _, h => by simp [lenL]; omega
  | x :: r, n, hp, h => by
    have hx := sizeI_bd (hp x (by simp))
    unfold lenL
    split
    · simp only; omega
    · rename_i hle
      have := lenL_bd r (n + (1 + sizeI x)) (fun y hy => hp y (by simp [hy])) (by omega)
      omega

/-- the length ahead of the parts -/
def Val.head (v : Val) : Int := if v.kind = 1 then sizeI v.num else if v.kind = 2 then (lenL v.list 1).1 else 1
end Go.Proofs.YtiacandbafjlfaaGreatDoor.Lift

namespace Go.Proofs.YtiacandbafjlfaaGreatDoor.Lift
set_option linter.unusedSimpArgs false
set_option linter.unusedVariables false
set_option linter.unnecessarySimpa false
open Go
variable {gl : Globs}

def listTm (l : List Int) : Tm := l.foldr (fun x t => Tm.mk 8 0 (Ty.mk 0 []) [numTm x.toNat, t]) (Tm.mk 7 0 (Ty.mk 0 []) [])

def Val.termN : Val → Tm
  | .mk k n l a =>
    if k = 2 then listTm l else if k = 4 then Tm.mk 13 0 (Ty.mk 0 []) [] else if k = 3 then Tm.mk 10 0 (Ty.mk 0 []) (terms a) else numTm n.toNat
where
  terms : List Val → List Tm
    | [] => []
    | a :: r => a.termN :: terms r
theorem Val.terms_map (l : List Val) : termN.terms l = l.map Val.termN := by
  induction l with
  | nil => rfl
  | cons a r ih => simp [termN.terms, ih]
theorem Val.termN_eq (v : Val) : v.termN = if v.kind = 2 then listTm v.list else if v.kind = 4 then Tm.mk 13 0 (Ty.mk 0 []) [] else if v.kind = 3 then Tm.mk 10 0 (Ty.mk 0 []) (v.args.map Val.termN) else numTm v.num.toNat := by
  cases v; rw [termN, terms_map]; rfl

/-- pairs have two parts -/
def Val.two : Val → Prop
  | .mk k _ _ a => (k = 3 → a.length = 2) ∧ twos a
where
  twos : List Val → Prop
    | [] => True
    | a :: r => a.two ∧ twos r
theorem Val.twos_iff (l : List Val) : two.twos l ↔ ∀ a ∈ l, a.two := by
  induction l with
  | nil => simp [two.twos]
  | cons a r ih => simp [two.twos, ih]
theorem Val.two_eq (v : Val) : v.two ↔ (v.kind = 3 → v.args.length = 2) ∧ ∀ a ∈ v.args, a.two := by
  cases v; simp only [two, twos_iff, kind, args]

end Go.Proofs.YtiacandbafjlfaaGreatDoor.Lift

namespace Go.Proofs.YtiacandbafjlfaaGreatDoor.Lift
set_option linter.unusedSimpArgs false
set_option linter.unusedVariables false
set_option linter.unnecessarySimpa false
open Go
variable {gl : Globs}

theorem Val.nodesL_ok {l : List Val} {n : Int} {ok : Bool} (h : (nodesN.nodesL l (n, ok)).2 = true) : ok = true ∧ ∀ a ∈ l, a.nodesN.2 = true := by
  induction l generalizing n ok with
  | nil => simp [nodesN.nodesL] at h; exact ⟨h, by simp⟩
  | cons a r ih =>
    cases ok with
    | false => rw [nodesL_no] at h; cases h
    | true =>
      simp only [nodesN.nodesL, if_true] at h
      obtain ⟨h1, h2⟩ := ih h
      exact ⟨rfl, by simpa using ⟨h1, h2⟩⟩

/-- a value that has a form has no negative numbers, and pairs of two parts -/
theorem Val.ok_all (v : Val) (h : v.nodesN.2 = true) : v.allPos ∧ v.two := by
  induction v using Val.ind with
  | h v ih =>
  rw [nodesN_eq] at h
  obtain ⟨h1, h2⟩ := nodesL_ok h
  rw [allPos_eq, two_eq]
  have hpos : v.pos ∧ (v.kind = 3 → v.args.length = 2) := by
    unfold okB at h1
    unfold pos
    split at h1
    · rename_i hk
      simp at h1
      simp [hk, h1]
    · split at h1
      · rename_i hk
        simp at h1
        simp [hk]
        obtain ⟨⟨q1, q2⟩, q3⟩ := h1
        rw [q1]
        exact ⟨by omega, fun n hn => by have := q2 n hn; omega⟩
      · split at h1
        · simp at h1; simp [h1]
        · split at h1
          · rename_i hk; simp at h1; simp [h1, hk]
          · cases h1
  exact ⟨⟨hpos.1, fun a ha => (ih a ha (h2 a ha)).1⟩, hpos.2, fun a ha => (ih a ha (h2 a ha)).2⟩

def zeroTm : Tm := Tm.mk 0 0 (Ty.mk 0 []) []

def Val.checkN (v : Val) : Int := if v.nodesN.2 = true then if v.nodesN.1 > 64 then 4 else 0 else 2

def Val.termE (v : Val) : Tm × Int := if v.checkN ≠ 0 then (zeroTm, v.checkN) else if v.lengthN > 4096 then (zeroTm, 4) else (v.termN, 0)

/-- values without parts, with small numbers -/
def Val.flat (v : Val) : Prop :=
  v.args = [] ∧ ((v.kind = 1 ∧ 0 ≤ v.num ∧ v.num ≤ 4 ∧ v.list = []) ∨ (v.kind = 2 ∧ v.num = 0 ∧ v.list.length ≤ 3 ∧ ∀ x ∈ v.list, 0 ≤ x ∧ x ≤ 3) ∨ (v.kind = 4 ∧ v.num = 0 ∧ v.list = []))
def Val.good (v : Val) : Prop := v.flat ∨ ∃ a b, v = Val.mk 3 0 [] [a, b] ∧ a.flat ∧ b.flat


def sumL (l : List Int) : Int := (l.map (· + 2)).sum
theorem sumL_bd : ∀ (l : List Int), (∀ x ∈ l, 0 ≤ x ∧ x ≤ 3) → 0 ≤ sumL l ∧ sumL l ≤ 5 * l.length
  | [], _ => by simp [sumL]
  | x :: r, h => by
    have h1 := h x (by simp)
    have h2 := sumL_bd r fun y hy => h y (by simp [hy])
    have : sumL (x :: r) = x + 2 + sumL r := by simp [sumL]
    rw [this]
    simp only [List.length_cons]
    omega

def Val.flatSize (v : Val) : Int := if v.kind = 1 then 1 + v.num else if v.kind = 2 then 1 + sumL v.list else 1

theorem Val.flatSize_bd {v : Val} (h : v.flat) : 1 ≤ v.flatSize ∧ v.flatSize ≤ 16 := by
  obtain ⟨-, h⟩ := h
  unfold flatSize
  rcases h with ⟨h1, h2, h3, h4⟩ | ⟨h1, h2, h3, h4⟩ | ⟨h1, h2, h3⟩
  · simp [h1]; omega
  · have := sumL_bd v.list h4
    simp [h1]; omega
  · simp [h1]

end Go.Proofs.YtiacandbafjlfaaGreatDoor.Lift

/-
  Plain facts: the types of terms.
-/
namespace Go.Proofs.YtiacandbafjlfaaGreatDoor.Lift
set_option linter.unusedSimpArgs false
set_option linter.unusedVariables false
set_option linter.unnecessarySimpa false
open Go

def zeroTy : Ty := Ty.mk 0 []
def Ty.arg (t : Ty) (i : Nat) : Ty := t.args.getD i zeroTy
def Ty.ok (t : Ty) : Prop := t.shape = true ∧ t.count ≤ 64

theorem Ty.checkN_iff (t : Ty) : t.checkN = 0 ↔ t.ok := by
  unfold Ty.checkN Ty.ok
  split
  · split
    · rename_i h; simp; omega
    · rename_i h; simp; constructor <;> first | assumption | omega
  · rename_i h; simp [h]

def okN (t : Ty) : Ty × Int := if t.checkN = 0 then (t, 0) else (zeroTy, 4)

theorem okN_ok (t : Ty) (h : (okN t).2 = 0) : (okN t).1.ok ∧ okN t = (t, 0) := by
  unfold okN at h ⊢
  split
  · rename_i h2; exact ⟨(Ty.checkN_iff t).1 h2, rfl⟩
  · rename_i h2; rw [if_neg h2] at h; cases h

/-- the type of a node, of the types of its parts -/
def ruleN (k : Int) (ty : Ty) (l : List Ty) : Ty × Int :=
  if k = 2 then okN (Ty.mk 4 [ty, l.getD 0 zeroTy])
  else if k = 3 then if (l.getD 0 zeroTy).kind = 4 ∧ ((l.getD 0 zeroTy).arg 0).same (l.getD 1 zeroTy) = true then ((l.getD 0 zeroTy).arg 1, 0) else (zeroTy, 7)
  else if k = 4 then (Ty.mk 1 [], 0)
  else if k = 5 then if (l.getD 0 zeroTy).same (Ty.mk 1 []) = true then (Ty.mk 1 [], 0) else (zeroTy, 7)
  else if k = 6 then if (l.getD 0 zeroTy).same ty = true ∧ (l.getD 1 zeroTy).same (Ty.mk 4 [Ty.mk 1 [], Ty.mk 4 [ty, ty]]) = true ∧ (l.getD 2 zeroTy).same (Ty.mk 1 []) = true then (ty, 0) else (zeroTy, 7)
  else if k = 7 then (Ty.mk 2 [], 0)
  else if k = 8 then if (l.getD 0 zeroTy).same (Ty.mk 1 []) = true ∧ (l.getD 1 zeroTy).same (Ty.mk 2 []) = true then (Ty.mk 2 [], 0) else (zeroTy, 7)
  else if k = 9 then if (l.getD 0 zeroTy).same ty = true ∧ (l.getD 1 zeroTy).same (Ty.mk 4 [Ty.mk 1 [], Ty.mk 4 [Ty.mk 2 [], Ty.mk 4 [ty, ty]]]) = true ∧ (l.getD 2 zeroTy).same (Ty.mk 2 []) = true then (ty, 0) else (zeroTy, 7)
  else if k = 10 then okN (Ty.mk 3 [l.getD 0 zeroTy, l.getD 1 zeroTy])
  else if k = 11 then if (l.getD 0 zeroTy).kind = 3 then ((l.getD 0 zeroTy).arg 0, 0) else (zeroTy, 7)
  else if k = 12 then if (l.getD 0 zeroTy).kind = 3 then ((l.getD 0 zeroTy).arg 1, 0) else (zeroTy, 7)
  else (Ty.mk 5 [], 0)

namespace Tm
set_option linter.unusedSimpArgs false
set_option linter.unusedVariables false
set_option linter.unnecessarySimpa false
def inferN : Tm → List Ty → Ty × Int
  | .mk k i ty a, g =>
    if k = 1 then if (g.length : Int) ≤ i then (zeroTy, 6) else (g.getD (g.length - 1 - i.toNat) zeroTy, 0)
    else if (infers a (if k = 2 then g ++ [ty] else g)).2 = 0 then ruleN k ty (infers a (if k = 2 then g ++ [ty] else g)).1
    else (zeroTy, (infers a (if k = 2 then g ++ [ty] else g)).2)
where
  infers : List Tm → List Ty → List Ty × Int
    | [], _ => ([], 0)
    | a :: r, g => if (a.inferN g).2 = 0 then if (infers r g).2 = 0 then ((a.inferN g).1 :: (infers r g).1, 0) else ([], (infers r g).2) else ([], (a.inferN g).2)

theorem inferN_eq (t : Tm) (g : List Ty) : t.inferN g =
    if t.kind = 1 then if (g.length : Int) ≤ t.index then (zeroTy, 6) else (g.getD (g.length - 1 - t.index.toNat) zeroTy, 0)
    else if (inferN.infers t.args (if t.kind = 2 then g ++ [t.type] else g)).2 = 0 then ruleN t.kind t.type (inferN.infers t.args (if t.kind = 2 then g ++ [t.type] else g)).1
    else (zeroTy, (inferN.infers t.args (if t.kind = 2 then g ++ [t.type] else g)).2) := by
  cases t; rw [inferN]; rfl

theorem infers_snoc (l : List Tm) (x : Tm) (g : List Ty) (h : (inferN.infers l g).2 = 0) (hx : (x.inferN g).2 = 0) :
    inferN.infers (l ++ [x]) g = ((inferN.infers l g).1 ++ [(x.inferN g).1], 0) := by
  induction l with
  | nil => simp [inferN.infers, hx]
  | cons a r ih =>
    simp only [inferN.infers] at h
    by_cases ha : (a.inferN g).2 = 0
    · by_cases hr : (inferN.infers r g).2 = 0
      · simp [inferN.infers, ha, hr, ih hr]
      · simp [ha, hr] at h
    · simp [ha] at h

theorem infers_stop (l : List Tm) (x : Tm) (m : List Tm) (g : List Ty) (h : (inferN.infers l g).2 = 0) (hx : ¬ (x.inferN g).2 = 0) :
    inferN.infers (l ++ x :: m) g = ([], (x.inferN g).2) := by
  induction l with
  | nil => simp [inferN.infers, hx]
  | cons a r ih =>
    simp only [inferN.infers] at h
    by_cases ha : (a.inferN g).2 = 0
    · by_cases hr : (inferN.infers r g).2 = 0
      · simp [inferN.infers, ha, ih hr, hx]
      · simp [ha, hr] at h
    · simp [ha] at h

theorem infers_all (l : List Tm) (g : List Ty) (h : (inferN.infers l g).2 = 0) :
    (inferN.infers l g).1.length = l.length ∧ ∀ (i : Nat) (x : Tm), l[i]? = some x → (x.inferN g).2 = 0 ∧ (inferN.infers l g).1[i]? = some (x.inferN g).1 := by
  induction l with
  | nil => simp [inferN.infers]
  | cons a r ih =>
    simp only [inferN.infers] at h ⊢
    by_cases ha : (a.inferN g).2 = 0
    · by_cases hr : (inferN.infers r g).2 = 0
      · simp only [ha, hr, if_true]
        obtain ⟨h1, h2⟩ := ih hr
        refine ⟨by simp [h1], ?_⟩
        intro i x hx
        cases i with
        | zero => simp at hx; subst hx; exact ⟨ha, by simp⟩
        | succ i => simp at hx; simpa using h2 i x hx
      · simp [ha, hr] at h
    · simp [ha] at h
end Tm

theorem Ty.ok_arg {t : Ty} (h : t.ok) {a : Ty} (ha : a ∈ t.args) : a.ok := by
  obtain ⟨h1, h2⟩ := h
  rw [Ty.shape_eq, Bool.and_eq_true, Ty.shapes_iff] at h1
  have := Ty.count_mem ha
  rw [Ty.count_eq] at h2
  exact ⟨h1.2 a ha, by omega⟩

theorem Ty.ok_two {t : Ty} (h : t.ok) (hk : t.kind = 3 ∨ t.kind = 4) : t.args.length = 2 := by
  obtain ⟨h1, h2⟩ := h
  rw [Ty.shape_eq, Bool.and_eq_true] at h1
  rcases hk with hk | hk <;> simpa [tyKind, hk] using h1.1

theorem Ty.ok_args {t : Ty} (h : t.ok) (hk : t.kind = 3 ∨ t.kind = 4) : ∃ a b, t.args = [a, b] ∧ a.ok ∧ b.ok ∧ t.arg 0 = a ∧ t.arg 1 = b := by
  have h2 := Ty.ok_two h hk
  match ha : t.args, h2 with
  | [a, b], _ => exact ⟨a, b, rfl, Ty.ok_arg h (by rw [ha]; simp), Ty.ok_arg h (by rw [ha]; simp), by simp [Ty.arg, ha], by simp [Ty.arg, ha]⟩

theorem ok_nat : (Ty.mk 1 []).ok := ⟨rfl, by decide⟩
theorem ok_list : (Ty.mk 2 []).ok := ⟨rfl, by decide⟩
theorem ok_unit : (Ty.mk 5 []).ok := ⟨rfl, by decide⟩

/-- what a valid term says about its node -/
theorem Tm.shape_node {t : Tm} (h : t.shape = true) : ((t.args.length : Int) = arityI t.kind) ∧ 0 ≤ t.index ∧ (t.kind = 1 ∨ t.index = 0) ∧ (if t.kind = 2 ∨ t.kind = 6 ∨ t.kind = 9 then t.type.ok else t.type.zero = true) ∧ ∀ a ∈ t.args, a.shape = true := by
  rw [Tm.shape_eq, Bool.and_eq_true, Tm.shapes_iff] at h
  obtain ⟨h1, h2⟩ := h
  simp only [tmKind, Bool.and_eq_true, Bool.or_eq_true, decide_eq_true_eq, tyOfKind] at h1
  refine ⟨h1.1.1.1, h1.1.1.2, h1.1.2, ?_, h2⟩
  by_cases hk : t.kind = 2 ∨ t.kind = 6 ∨ t.kind = 9
  · rw [if_pos hk] at h1 ⊢; exact (Ty.checkN_iff _).1 (by simpa using h1.2)
  · rw [if_neg hk] at h1 ⊢; exact h1.2

theorem Tm.inferN_ok (t : Tm) (g : List Ty) (ht : t.shape = true) (hg : ∀ x ∈ g, x.ok) (h : (t.inferN g).2 = 0) : (t.inferN g).1.ok := by
  induction t using Tm.ind generalizing g with
  | h t ih =>
  obtain ⟨ha, hi, hv, hty, hs⟩ := Tm.shape_node ht
  rw [inferN_eq] at h ⊢
  by_cases h1 : t.kind = 1
  · rw [if_pos h1] at h ⊢
    by_cases h2 : (g.length : Int) ≤ t.index
    · rw [if_pos h2] at h; cases h
    · rw [if_neg h2]
      have : g.length - 1 - t.index.toNat < g.length := by omega
      simp only [List.getD_eq_getElem?_getD, List.getElem?_eq_getElem this, Option.getD_some]
      exact hg _ (List.getElem_mem _)
  · rw [if_neg h1] at h ⊢
    generalize hge : (if t.kind = 2 then g ++ [t.type] else g) = g' at h ⊢
    have hg' : ∀ x ∈ g', x.ok := by
      subst hge
      split
      · rename_i h2
        intro x hx
        rcases List.mem_append.1 hx with hx | hx
        · exact hg x hx
        · rw [List.mem_singleton.1 hx]; rwa [if_pos (.inl h2)] at hty
      · exact hg
    by_cases h2 : (inferN.infers t.args g').2 = 0
    · rw [if_pos h2] at h ⊢
      obtain ⟨hl, hx⟩ := infers_all _ _ h2
      have key : ∀ i : Nat, i < t.args.length → ((inferN.infers t.args g').1.getD i zeroTy).ok := by
        intro i hi
        obtain ⟨x1, x2⟩ := hx i t.args[i] (List.getElem?_eq_getElem hi)
        rw [List.getD_eq_getElem?_getD, x2, Option.getD_some]
        exact ih _ (List.getElem_mem _) g' (hs _ (List.getElem_mem _)) hg' x1
      generalize (inferN.infers t.args g').1 = l at h key ⊢
      unfold ruleN at h ⊢
      by_cases hk : t.kind = 2
      · rw [if_pos hk] at h ⊢
        exact (okN_ok _ h).1
      rw [if_neg hk] at h ⊢
      by_cases hk : t.kind = 3
      · rw [if_pos hk] at h ⊢
        by_cases hx : (l.getD 0 zeroTy).kind = 4 ∧ ((l.getD 0 zeroTy).arg 0).same (l.getD 1 zeroTy) = true
        · rw [if_pos hx] at h ⊢
          obtain ⟨a, b, e, oa, ob, e0, e1⟩ := Ty.ok_args (key 0 (by rw [hk] at ha; simp [arityI] at ha; omega)) (.inr hx.1)
          rw [e1]; exact ob
        · rw [if_neg hx] at h; cases h
      rw [if_neg hk] at h ⊢
      by_cases hk : t.kind = 4
      · rw [if_pos hk] at h ⊢
        exact ok_nat
      rw [if_neg hk] at h ⊢
      by_cases hk : t.kind = 5
      · rw [if_pos hk] at h ⊢
        by_cases hx : (l.getD 0 zeroTy).same (Ty.mk 1 []) = true
        · rw [if_pos hx] at h ⊢
          exact ok_nat
        · rw [if_neg hx] at h; cases h
      rw [if_neg hk] at h ⊢
      by_cases hk : t.kind = 6
      · rw [if_pos hk] at h ⊢
        by_cases hx : (l.getD 0 zeroTy).same t.type = true ∧ (l.getD 1 zeroTy).same (Ty.mk 4 [Ty.mk 1 [], Ty.mk 4 [t.type, t.type]]) = true ∧ (l.getD 2 zeroTy).same (Ty.mk 1 []) = true
        · rw [if_pos hx] at h ⊢
          rwa [if_pos (.inr (.inl hk))] at hty
        · rw [if_neg hx] at h; cases h
      rw [if_neg hk] at h ⊢
      by_cases hk : t.kind = 7
      · rw [if_pos hk] at h ⊢
        exact ok_list
      rw [if_neg hk] at h ⊢
      by_cases hk : t.kind = 8
      · rw [if_pos hk] at h ⊢
        by_cases hx : (l.getD 0 zeroTy).same (Ty.mk 1 []) = true ∧ (l.getD 1 zeroTy).same (Ty.mk 2 []) = true
        · rw [if_pos hx] at h ⊢
          exact ok_list
        · rw [if_neg hx] at h; cases h
      rw [if_neg hk] at h ⊢
      by_cases hk : t.kind = 9
      · rw [if_pos hk] at h ⊢
        by_cases hx : (l.getD 0 zeroTy).same t.type = true ∧ (l.getD 1 zeroTy).same (Ty.mk 4 [Ty.mk 1 [], Ty.mk 4 [Ty.mk 2 [], Ty.mk 4 [t.type, t.type]]]) = true ∧ (l.getD 2 zeroTy).same (Ty.mk 2 []) = true
        · rw [if_pos hx] at h ⊢
          rwa [if_pos (.inr (.inr hk))] at hty
        · rw [if_neg hx] at h; cases h
      rw [if_neg hk] at h ⊢
      by_cases hk : t.kind = 10
      · rw [if_pos hk] at h ⊢
        exact (okN_ok _ h).1
      rw [if_neg hk] at h ⊢
      by_cases hk : t.kind = 11
      · rw [if_pos hk] at h ⊢
        by_cases hx : (l.getD 0 zeroTy).kind = 3
        · rw [if_pos hx] at h ⊢
          obtain ⟨a, b, e, oa, ob, e0, e1⟩ := Ty.ok_args (key 0 (by rw [hk] at ha; simp [arityI] at ha; omega)) (.inl hx)
          rw [e0]; exact oa
        · rw [if_neg hx] at h; cases h
      rw [if_neg hk] at h ⊢
      by_cases hk : t.kind = 12
      · rw [if_pos hk] at h ⊢
        by_cases hx : (l.getD 0 zeroTy).kind = 3
        · rw [if_pos hx] at h ⊢
          obtain ⟨a, b, e, oa, ob, e0, e1⟩ := Ty.ok_args (key 0 (by rw [hk] at ha; simp [arityI] at ha; omega)) (.inl hx)
          rw [e1]; exact ob
        · rw [if_neg hx] at h; cases h
      rw [if_neg hk] at h ⊢
      exact ok_unit
    · rw [if_neg h2] at h
      exact absurd h h2
end Go.Proofs.YtiacandbafjlfaaGreatDoor.Lift

namespace Go.Proofs.YtiacandbafjlfaaGreatDoor.Lift
set_option linter.unusedSimpArgs false
set_option linter.unusedVariables false
set_option linter.unnecessarySimpa false
open Go
variable {gl : Globs}

def Val.typeE (v : Val) : Ty × Int := if v.checkN ≠ 0 then (zeroTy, v.checkN) else (v.tyN, 0)

theorem ref05_ints_ok (a b : List Int) (ha : a.length ≤ 2147483648) (hb : b.length ≤ 2147483648) : Con1 Tryz.prog gl 70 [.sl (ints a), .sl (ints b)] [] (dbool (decide (a = b))) [] := by
  refine t_in Tryz.func70 ?_
  intro X hP hgl hf hfn hn hR hids hfit
  by_cases hl : a.length = b.length
  · refine t_g @hl ?_
    refine t_a ?_
    refine t_sub [] @hl (W_upto (a.length) (fun i => ∀ (j : Nat) (x y : Int), j < i → a[j]? = some x → b[j]? = some y → x = y) (fun i => [(.slot 13, .one (.v (dint i))), (.slot 12, .one (.v (dint a.length))), (.slot 0, .one (.v (.sl (ints a)))), (.slot 1, .one (.v (.sl (ints b))))]) (by intro j x y h; omega) ?_ ?_)
    · intro i hlt hI hnext
      obtain ⟨x, hx⟩ : ∃ x, a[i]? = some x := ⟨_, List.getElem?_eq_getElem hlt⟩
      obtain ⟨y, hy⟩ : ∃ y, b[i]? = some y := ⟨_, List.getElem?_eq_getElem (by omega)⟩
      have gx := ints_get hx
      have gy := ints_get hy
      refine t_rg0 ?_
      refine t_yes ?_
      by_cases hs : x = y
      · refine t_gt (wr []) trivial (j2 @gx (j2 @gy @hs)) (hnext ?_)
        intro j x' y' hj hx' hy'
        by_cases hji : j = i
        · subst hji; rw [hx] at hx'; rw [hy] at hy'; cases hx'; cases hy'; exact hs
        · exact hI j x' y' (by omega) hx' hy'
      · have hne : a ≠ b := fun e => by subst e; rw [hx] at hy; cases hy; exact hs rfl
        refine t_g (j2 @gx (j2 @gy @hs)) ?_
        refine t_r ?_
        simp [go_sem, hP, hgl, hn, hne] <;> (try omega)
    · intro hI
      have he : a = b := List.ext_getElem hl fun i h1 h2 => hI i _ _ h1 (List.getElem?_eq_getElem h1) (List.getElem?_eq_getElem h2)
      refine t_rg0 ?_
      refine t_no ?_
      refine t_g0 ?_
      refine t_r ?_
      simp [go_sem, hP, hgl, hn, he] <;> (try omega)
  · have hne : a ≠ b := fun e => hl (by rw [e])
    refine t_g @hl ?_
    refine t_r ?_
    simp [go_sem, hP, hgl, hn, hne] <;> (try omega)
end Go.Proofs.YtiacandbafjlfaaGreatDoor.Lift

namespace Go.Proofs.YtiacandbafjlfaaGreatDoor.Lift
set_option linter.unusedSimpArgs false
set_option linter.unusedVariables false
set_option linter.unnecessarySimpa false
open Go
variable {gl : Globs}

theorem ref01_fun_ok (a b : Ty) : Con1 Tryz.prog gl 39 [a.dv, b.dv] [] (Ty.mk 4 [a, b]).dv [] := by
  refine t_in Tryz.func39 ?_
  intro X hP hgl hf hfn hn hR hids hfit
  refine t_g0 ?_
  refine t_c2 trivial (ref01_copy_ok a) (ref01_copy_ok b) ?_
  refine t_r ?_
  simp [go_sem, hP, hgl, hn] <;> (try omega)
  all_goals exact t_f

theorem ref02_ok_ok (t : Ty) (hc : t.count ≤ 1073741824) : Con1 Tryz.prog gl 149 [t.dv] [] (.tup [(okN t).1.dv, dint (okN t).2]) [] := by
  refine t_in Tryz.func149 ?_
  intro X hP hgl hf hfn hn hR hids hfit
  refine t_g0 ?_
  refine t_c1 trivial (ref01_check_ok t (by omega)) ?_
  by_cases h : t.checkN = 0
  · refine t_g @h ?_
    refine t_r ?_
    simp [go_sem, hP, hgl, hn, okN, h] <;> (try omega)
    all_goals exact t_f
  · refine t_g @h ?_
    refine t_r ?_
    simp [go_sem, hP, hgl, hn, okN, h, zeroTy] <;> (try omega)
    all_goals exact t_f

theorem count_two (k : Int) (a b : Ty) : (Ty.mk k [a, b]).count = 1 + (a.count + (b.count + 0)) := rfl

theorem take_tys (g : List Ty) : List.take g.length (List.map Ty.cells g) = List.map Ty.cells g := by rw [List.take_of_length_le]; simp

theorem nat_v : (Ty.mk 1 []).dv = .agg [dint 1, .sl []] := rfl
theorem list_v : (Ty.mk 2 []).dv = .agg [dint 2, .sl []] := rfl

set_option maxHeartbeats 4000000 in
theorem infer_ok (t : Tm) (g : List Ty) (hgt : g.length + t.count ≤ 2147483648) (ht : t.shape = true) (hg : ∀ x ∈ g, x.ok) : Con1 Tryz.prog gl 144 [.sl (g.map Ty.cells), t.dv] [] (.tup [(t.inferN g).1.dv, dint (t.inferN g).2]) [] := by
  induction t using Tm.ind generalizing g with
  | h t ih =>
  obtain ⟨ha, hi, hv, hty, hs⟩ := Tm.shape_node ht
  refine t_in Tryz.func144 ?_
  intro X hP hgl hf hfn hn hR hids hfit
  have hlg := sl_len (hfit (.sl (g.map Ty.cells)) (by simp))
  simp at hlg
  by_cases h1 : t.kind = 1
  · by_cases h2 : (g.length : Int) ≤ t.index
    · refine t_g (j2 @h1 @h2) ?_
      refine t_r ?_
      simp [go_sem, hP, hgl, hn, Tm.inferN_eq t, h1, h2, zeroTy] <;> (try omega)
      all_goals exact t_f
    · have hlt : g.length - 1 - t.index.toNat < g.length := by omega
      have hx := List.getElem?_eq_getElem hlt
      generalize hge : g[g.length - 1 - t.index.toNat] = x at hx
      have hx' : g[(g.length - 1 - t.index : Int).toNat]? = some x := by rw [← hx]; congr 1; omega
      refine t_g (j2 @h1 @h2) ?_
      refine t_c1 @hx' (ref01_copy_ok x) ?_
      refine t_r ?_
      simp [go_sem, hP, hgl, hn, Tm.inferN_eq t, h1, h2, hx] <;> (try omega)
      all_goals exact t_f
  by_cases hk2 : t.kind = 2
  · rw [hk2] at ha
    obtain ⟨b, hb⟩ : ∃ b, t.args = [b] := by
      match hh : t.args, ha with
      | [b], _ => exact ⟨b, rfl⟩
    have hbm : b ∈ t.args := by rw [hb]; simp
    rw [if_pos (.inl hk2)] at hty
    have hg' : ∀ x ∈ g ++ [t.type], x.ok := by
      intro x hx
      rcases List.mem_append.1 hx with hx | hx
      · exact hg x hx
      · rw [List.mem_singleton.1 hx]; exact hty
    have hi' := Tm.inferN_ok b (g ++ [t.type]) (hs b hbm) hg'
    have hcb1 : t.count = 1 + (b.count + 0) := by rw [Tm.count_eq, hb]; rfl
    have hcb2 := Tm.count_pos b
    have hgl1 : g.length ≤ 2147483647 := by omega
    refine t_g @hk2 ?_
    refine t_c1 (j2 @hk2 (j2 @hb (j2 @take_tys (j2 (Ty.cells_eq t.type) @Ty.length_cells)))) (ih b hbm (g ++ [t.type]) (by simp; omega) (hs b hbm) hg') ?_
    by_cases he : (b.inferN (g ++ [t.type])).2 = 0
    · have hcb := hty.2
      have hcc := (hi' he).2
      refine t_g @he ?_
      refine t_c2 trivial (ref01_fun_ok t.type (b.inferN (g ++ [t.type])).1) (ref02_ok_ok (Ty.mk 4 [t.type, (b.inferN (g ++ [t.type])).1]) (by rw [count_two]; omega)) ?_
      refine t_r ?_
      simp [go_sem, hP, hgl, hn, Tm.inferN_eq t, hk2, hb, Tm.inferN.infers, he, ruleN] <;> (try omega)
      all_goals exact t_f
    · refine t_g @he ?_
      refine t_r ?_
      simp [go_sem, hP, hgl, hn, Tm.inferN_eq t, hk2, hb, Tm.inferN.infers, he, zeroTy] <;> (try omega)
      all_goals exact t_f
  have hlen := Tm.fit_len (hfit t.dv (by simp))
  refine t_g (j2 @h1 @hk2) ?_
  refine t_a ?_
  refine W_sub [(1008, 0)] (by simp [go_sem]) (by simp [go_sem, Tm.inferN.infers] <;> omega) (by simp [go_sem]) (W_listI (t.args) (fun done => (Tm.inferN.infers done g).2 = 0) (fun done rest => [(.slot 0, .one (.v (.sl (g.map Ty.cells)))), (.slot 69, .one (.v (dint done.length))), (.slot 68, .one (.v (dint t.args.length))), (.slot 67, .one (.v (.sl (t.args.map Tm.cells)))), (.slot 8, .one (.own 1008 ((Tm.inferN.infers done g).1.map Ty.cells))), (.tok 1008, .tk 2 (Tm.inferN.infers done g).1.length), (.loc 4, .row ([.v (dint 0), .own 0 []])), (.slot 4, .one (.loc 4 0)), (.loc 3, .row ([.v (dint t.kind), .v (dint t.index), .v (dint t.type.kind), .v (.sl (t.type.args.map Ty.cells)), .v (.sl (t.args.map Tm.cells))])), (.slot 3, .one (.loc 3 0))]) (rfl) ?_ ?_)
  · intro done x rest hL hg0 hI hnext
    have hlt : done.length < t.args.length := by rw [hL]; simp
    have hxm := List.mem_of_getElem? hg0
    have hcx := Tm.count_mem hxm
    have hct := Tm.count_eq t
    have hix := Tm.inferN_ok x g (hs x hxm) hg
    refine t_rg0 ?_
    refine t_yes ?_
    refine t_g @hg0 ?_
    refine t_c1 @hg0 (ih x hxm g (by omega) (hs x hxm) hg) ?_
    by_cases he : (x.inferN g).2 = 0
    · have hsn := Tm.infers_snoc done x g hI he
      have hdl := (Tm.infers_all done g hI).1
      refine t_gt (wr [(1008, 86)]) (j2 @hsn (j2 @hdl (Ty.cells_eq (x.inferN g).1))) (j2 @he @hdl) (hnext (by rw [hsn]))
    · have hst := Tm.infers_stop done x rest g hI he
      rw [← hL] at hst
      refine t_g @he ?_
      refine t_r ?_
      simp [go_sem, hP, hgl, hn, Tm.inferN_eq t, h1, hk2, hst, he, zeroTy] <;> (try omega)
      all_goals exact t_f
  · intro hI
    have hN : t.inferN g = ruleN t.kind t.type (Tm.inferN.infers t.args g).1 := by rw [Tm.inferN_eq t]; simp [h1, hk2, hI]
    have hdl := (Tm.infers_all t.args g hI).1
    have hdo : ∀ a ∈ (Tm.inferN.infers t.args g).1, a.ok := by
      intro a ha
      obtain ⟨i, hi, rfl⟩ := List.mem_iff_getElem.1 ha
      obtain ⟨x1, x2⟩ := (Tm.infers_all t.args g hI).2 i t.args[i] (List.getElem?_eq_getElem (by omega))
      rw [List.getElem?_eq_getElem hi] at x2
      rw [Option.some.inj x2]
      exact Tm.inferN_ok _ g (hs _ (List.getElem_mem _)) hg x1
    obtain ⟨ds, hds⟩ : ∃ ds, ds = (Tm.inferN.infers t.args g).1 := ⟨_, rfl⟩
    rw [← hds] at hN hdl hdo ⊢
    rw [← hdl] at ha
    have h1l : t.kind = 5 ∨ t.kind = 11 ∨ t.kind = 12 → ∃ x, ds = [x] := by
      intro hk
      have : ds.length = 1 := by rcases hk with hk | hk | hk <;> simp [hk, arityI] at ha <;> omega
      exact List.length_eq_one_iff.1 this
    have h2l : t.kind = 3 ∨ t.kind = 8 ∨ t.kind = 10 → ∃ x y, ds = [x, y] := by
      intro hk
      have : ds.length = 2 := by rcases hk with hk | hk | hk <;> simp [hk, arityI] at ha <;> omega
      match ds, this with
      | [x, y], _ => exact ⟨x, y, rfl⟩
    have h3l : t.kind = 6 ∨ t.kind = 9 → ∃ x y z, ds = [x, y, z] := by
      intro hk
      have : ds.length = 3 := by rcases hk with hk | hk <;> simp [hk, arityI] at ha <;> omega
      match ds, this with
      | [x, y, z], _ => exact ⟨x, y, z, rfl⟩
    refine t_rg0 ?_
    refine t_no ?_
    refine t_c2 trivial ref01_nat_ok ref01_list_ok ?_
    by_cases h3 : t.kind = 3
    · obtain ⟨x, y, rfl⟩ := h2l (.inl h3)
      by_cases hx : x.kind = 4
      · obtain ⟨p, q, hp, op, oq, e0, e1⟩ := Ty.ok_args (hdo x (by simp)) (.inr hx)
        refine t_g @h3 ?_
        refine t_c1 (j2 @h3 (j2 @hx @hp)) (ref01_same_ok p y) ?_
        by_cases hs : p.same y = true
        · refine t_g (j2 @h3 (j2 @hx (j2 @hp @hs))) ?_
          refine t_r ?_
          simp [go_sem, hP, hgl, hn, hN, ruleN, h3, hx, e0, e1, hs] <;> (try omega)
          all_goals exact t_f
        · refine t_g (j2 @h3 (j2 @hx (j2 @hp @hs))) ?_
          refine t_r ?_
          simp [go_sem, hP, hgl, hn, hN, ruleN, h3, hx, e0, e1, hs, zeroTy] <;> (try omega)
          all_goals exact t_f
      · refine t_g (j2 @h3 @hx) ?_
        refine t_r ?_
        simp [go_sem, hP, hgl, hn, hN, ruleN, h3, hx, zeroTy] <;> (try omega)
        all_goals exact t_f
    by_cases h4 : t.kind = 4
    · refine t_g @h4 ?_
      refine t_r ?_
      simp [go_sem, hP, hgl, hn, hN, ruleN, h4] <;> (try omega)
      all_goals exact t_f
    by_cases h5 : t.kind = 5
    · obtain ⟨x, rfl⟩ := h1l (.inl h5)
      refine t_g @h5 ?_
      refine t_c1 (j2 @h5 (j2 @nat_v @list_v)) (ref01_same_ok x (Ty.mk 1 [])) ?_
      by_cases hs : x.same (Ty.mk 1 []) = true
      · refine t_g (j2 @h5 @hs) ?_
        refine t_r ?_
        simp [go_sem, hP, hgl, hn, hN, ruleN, h5, hs] <;> (try omega)
        all_goals exact t_f
      · refine t_g (j2 @h5 @hs) ?_
        refine t_r ?_
        simp [go_sem, hP, hgl, hn, hN, ruleN, h5, hs, zeroTy] <;> (try omega)
        all_goals exact t_f
    by_cases h6 : t.kind = 6
    · obtain ⟨x, y, z, rfl⟩ := h3l (.inl h6)
      rw [if_pos (by simp [h6])] at hty
      by_cases hs1 : x.same t.type = true
      · by_cases hs2 : y.same (Ty.mk 4 [Ty.mk 1 [], Ty.mk 4 [t.type, t.type]]) = true
        · refine t_g @h6 ?_
          refine t_c5 (j2 @h6 (j2 @hs1 (j2 @hs2 (j2 @nat_v @list_v)))) (ref01_same_ok x t.type) (ref01_fun_ok t.type t.type) (ref01_fun_ok (Ty.mk 1 []) (Ty.mk 4 [t.type, t.type])) (ref01_same_ok y (Ty.mk 4 [Ty.mk 1 [], Ty.mk 4 [t.type, t.type]])) (ref01_same_ok z (Ty.mk 1 [])) ?_
          by_cases hs3 : z.same (Ty.mk 1 []) = true
          · refine t_g (j2 @h6 (j2 @hs1 (j2 @hs2 @hs3))) ?_
            refine t_c1 @h6 (ref01_copy_ok t.type) ?_
            refine t_r ?_
            simp [go_sem, hP, hgl, hn, hN, ruleN, h6, hs1, hs2, hs3] <;> (try omega)
            all_goals exact t_f
          · refine t_g (j2 @h6 (j2 @hs1 (j2 @hs2 @hs3))) ?_
            refine t_r ?_
            simp [go_sem, hP, hgl, hn, hN, ruleN, h6, hs1, hs2, hs3, zeroTy] <;> (try omega)
            all_goals exact t_f
        · refine t_g @h6 ?_
          refine t_c4 (j2 @h6 (j2 @hs1 (j2 @hs2 (j2 @nat_v @list_v)))) (ref01_same_ok x t.type) (ref01_fun_ok t.type t.type) (ref01_fun_ok (Ty.mk 1 []) (Ty.mk 4 [t.type, t.type])) (ref01_same_ok y (Ty.mk 4 [Ty.mk 1 [], Ty.mk 4 [t.type, t.type]])) ?_
          refine t_g (j2 @h6 (j2 @hs1 @hs2)) ?_
          refine t_r ?_
          simp [go_sem, hP, hgl, hn, hN, ruleN, h6, hs1, hs2, zeroTy] <;> (try omega)
          all_goals exact t_f
      · refine t_g @h6 ?_
        refine t_c1 (j2 @h6 @hs1) (ref01_same_ok x t.type) ?_
        refine t_g (j2 @h6 @hs1) ?_
        refine t_r ?_
        simp [go_sem, hP, hgl, hn, hN, ruleN, h6, hs1, zeroTy] <;> (try omega)
        all_goals exact t_f
    by_cases h7 : t.kind = 7
    · refine t_g @h7 ?_
      refine t_r ?_
      simp [go_sem, hP, hgl, hn, hN, ruleN, h7] <;> (try omega)
      all_goals exact t_f
    by_cases h8 : t.kind = 8
    · obtain ⟨x, y, rfl⟩ := h2l (.inr (.inl h8))
      by_cases hs1 : x.same (Ty.mk 1 []) = true
      · refine t_g @h8 ?_
        refine t_c2 (j2 @h8 (j2 @hs1 (j2 @nat_v @list_v))) (ref01_same_ok x (Ty.mk 1 [])) (ref01_same_ok y (Ty.mk 2 [])) ?_
        by_cases hs2 : y.same (Ty.mk 2 []) = true
        · refine t_g (j2 @h8 (j2 @hs1 @hs2)) ?_
          refine t_r ?_
          simp [go_sem, hP, hgl, hn, hN, ruleN, h8, hs1, hs2] <;> (try omega)
          all_goals exact t_f
        · refine t_g (j2 @h8 (j2 @hs1 @hs2)) ?_
          refine t_r ?_
          simp [go_sem, hP, hgl, hn, hN, ruleN, h8, hs1, hs2, zeroTy] <;> (try omega)
          all_goals exact t_f
      · refine t_g @h8 ?_
        refine t_c1 (j2 @h8 (j2 @hs1 (j2 @nat_v @list_v))) (ref01_same_ok x (Ty.mk 1 [])) ?_
        refine t_g (j2 @h8 @hs1) ?_
        refine t_r ?_
        simp [go_sem, hP, hgl, hn, hN, ruleN, h8, hs1, zeroTy] <;> (try omega)
        all_goals exact t_f
    by_cases h9 : t.kind = 9
    · obtain ⟨x, y, z, rfl⟩ := h3l (.inr h9)
      rw [if_pos (by simp [h9])] at hty
      by_cases hs1 : x.same t.type = true
      · by_cases hs2 : y.same (Ty.mk 4 [Ty.mk 1 [], Ty.mk 4 [Ty.mk 2 [], Ty.mk 4 [t.type, t.type]]]) = true
        · refine t_g @h9 ?_
          refine t_c6 (j2 @h9 (j2 @hs1 (j2 @hs2 (j2 @nat_v @list_v)))) (ref01_same_ok x t.type) (ref01_fun_ok t.type t.type) (ref01_fun_ok (Ty.mk 2 []) (Ty.mk 4 [t.type, t.type])) (ref01_fun_ok (Ty.mk 1 []) (Ty.mk 4 [Ty.mk 2 [], Ty.mk 4 [t.type, t.type]])) (ref01_same_ok y (Ty.mk 4 [Ty.mk 1 [], Ty.mk 4 [Ty.mk 2 [], Ty.mk 4 [t.type, t.type]]])) (ref01_same_ok z (Ty.mk 2 [])) ?_
          by_cases hs3 : z.same (Ty.mk 2 []) = true
          · refine t_g (j2 @h9 (j2 @hs1 (j2 @hs2 @hs3))) ?_
            refine t_c1 @h9 (ref01_copy_ok t.type) ?_
            refine t_r ?_
            simp [go_sem, hP, hgl, hn, hN, ruleN, h9, hs1, hs2, hs3] <;> (try omega)
            all_goals exact t_f
          · refine t_g (j2 @h9 (j2 @hs1 (j2 @hs2 @hs3))) ?_
            refine t_r ?_
            simp [go_sem, hP, hgl, hn, hN, ruleN, h9, hs1, hs2, hs3, zeroTy] <;> (try omega)
            all_goals exact t_f
        · refine t_g @h9 ?_
          refine t_c5 (j2 @h9 (j2 @hs1 (j2 @hs2 (j2 @nat_v @list_v)))) (ref01_same_ok x t.type) (ref01_fun_ok t.type t.type) (ref01_fun_ok (Ty.mk 2 []) (Ty.mk 4 [t.type, t.type])) (ref01_fun_ok (Ty.mk 1 []) (Ty.mk 4 [Ty.mk 2 [], Ty.mk 4 [t.type, t.type]])) (ref01_same_ok y (Ty.mk 4 [Ty.mk 1 [], Ty.mk 4 [Ty.mk 2 [], Ty.mk 4 [t.type, t.type]]])) ?_
          refine t_g (j2 @h9 (j2 @hs1 @hs2)) ?_
          refine t_r ?_
          simp [go_sem, hP, hgl, hn, hN, ruleN, h9, hs1, hs2, zeroTy] <;> (try omega)
          all_goals exact t_f
      · refine t_g @h9 ?_
        refine t_c1 (j2 @h9 @hs1) (ref01_same_ok x t.type) ?_
        refine t_g (j2 @h9 @hs1) ?_
        refine t_r ?_
        simp [go_sem, hP, hgl, hn, hN, ruleN, h9, hs1, zeroTy] <;> (try omega)
        all_goals exact t_f
    by_cases h10 : t.kind = 10
    · obtain ⟨x, y, rfl⟩ := h2l (.inr (.inr h10))
      have hcx := (hdo x (by simp)).2
      have hcy := (hdo y (by simp)).2
      refine t_g @h10 ?_
      refine t_c2 @h10 (ref01_two_ok x y) (ref02_ok_ok (Ty.mk 3 [x, y]) (by rw [count_two]; omega)) ?_
      refine t_r ?_
      simp [go_sem, hP, hgl, hn, hN, ruleN, h10] <;> (try omega)
      all_goals exact t_f
    by_cases h11 : t.kind = 11
    · obtain ⟨x, rfl⟩ := h1l (.inr (.inl h11))
      by_cases hx : x.kind = 3
      · obtain ⟨p, q, hp, op, oq, e0, e1⟩ := Ty.ok_args (hdo x (by simp)) (.inl hx)
        refine t_g (j2 @h11 (j2 @hx @hp)) ?_
        refine t_r ?_
        simp [go_sem, hP, hgl, hn, hN, ruleN, h11, hx, e0] <;> (try omega)
        all_goals exact t_f
      · refine t_g (j2 @h11 @hx) ?_
        refine t_r ?_
        simp [go_sem, hP, hgl, hn, hN, ruleN, h11, hx, zeroTy] <;> (try omega)
        all_goals exact t_f
    by_cases h12 : t.kind = 12
    · obtain ⟨x, rfl⟩ := h1l (.inr (.inr h12))
      by_cases hx : x.kind = 3
      · obtain ⟨p, q, hp, op, oq, e0, e1⟩ := Ty.ok_args (hdo x (by simp)) (.inl hx)
        refine t_g (j2 @h12 (j2 @hx @hp)) ?_
        refine t_r ?_
        simp [go_sem, hP, hgl, hn, hN, ruleN, h12, hx, e1] <;> (try omega)
        all_goals exact t_f
      · refine t_g (j2 @h12 @hx) ?_
        refine t_r ?_
        simp [go_sem, hP, hgl, hn, hN, ruleN, h12, hx, zeroTy] <;> (try omega)
        all_goals exact t_f
    refine t_g (j2 @h1 (j2 @hk2 (j2 @h3 (j2 @h4 (j2 @h5 (j2 @h6 (j2 @h7 (j2 @h8 (j2 @h9 (j2 @h10 (j2 @h11 @h12))))))))))) ?_
    refine t_c1 @h1 ref01_unit_ok ?_
    refine t_r ?_
    simp [go_sem, hP, hgl, hn, hN, ruleN, h1, hk2, h3, h4, h5, h6, h7, h8, h9, h10, h11, h12] <;> (try omega)
    all_goals exact t_f
end Go.Proofs.YtiacandbafjlfaaGreatDoor.Lift

namespace Go.Proofs.YtiacandbafjlfaaGreatDoor.Lift
set_option linter.unusedSimpArgs false
set_option linter.unusedVariables false
set_option linter.unnecessarySimpa false
open Go
variable {gl : Globs}

def Tm.typedE (t : Tm) (g : List Ty) : Ty × Int := if t.checkN = 0 then t.inferN g else (zeroTy, t.checkN)
def Tm.typeE (t : Tm) (g : List Ty) : Ty × Int := if ctxN g = 0 then t.typedE g else (zeroTy, ctxN g)

theorem Tm.checkN_iff (t : Tm) : t.checkN = 0 ↔ t.shape = true ∧ t.count ≤ 4096 := by
  unfold Tm.checkN
  split
  · split
    · rename_i h; simp; omega
    · rename_i h; simp; constructor <;> first | assumption | omega
  · rename_i h; simp [h]

theorem errTys_all {l : List Ty} (h : errTys l = 0) : ∀ x ∈ l, x.ok := by
  induction l with
  | nil => simp
  | cons a r ih =>
    simp only [errTys] at h
    split at h
    · rename_i ha
      intro x hx
      rcases List.mem_cons.1 hx with rfl | hx
      · exact (Ty.checkN_iff _).1 ha
      · exact ih h x hx
    · rename_i ha; exact absurd h ha

theorem ctxN_all {l : List Ty} (h : ctxN l = 0) : l.length ≤ 16 ∧ ∀ x ∈ l, x.ok := by
  unfold ctxN at h
  split at h
  · cases h
  · exact ⟨by omega, errTys_all h⟩

theorem ref02_typed_ok (t : Tm) (g : List Ty) (hgl : g.length ≤ 1048576) (ht : t.tys) (hc : t.count ≤ 1073741824) (hg : ∀ x ∈ g, x.ok) : Con1 Tryz.prog gl 128 [.sl (g.map Ty.cells), t.dv] [] (.tup [(t.typedE g).1.dv, dint (t.typedE g).2]) [] := by
  refine t_in Tryz.func128 ?_
  intro X hP hgl hf hfn hn hR hids hfit
  refine t_g0 ?_
  refine t_c1 trivial (ref02_check_ok t ht (by omega)) ?_
  by_cases h : t.checkN = 0
  · refine t_g @h ?_
    refine t_c1 trivial (infer_ok t g (by omega) ((Tm.checkN_iff t).1 h).1 hg) ?_
    refine t_r ?_
    simp [go_sem, hP, hgl, hn, Tm.typedE, h] <;> (try omega)
    all_goals exact t_f
  · refine t_g @h ?_
    refine t_r ?_
    simp [go_sem, hP, hgl, hn, Tm.typedE, h, zeroTy] <;> (try omega)
    all_goals exact t_f

theorem ref02_typeof_ok (t : Tm) (g : List Ty) (hg : ∀ x ∈ g, x.count ≤ 2147483648) (ht : t.tys) (hc : t.count ≤ 1073741824) : Con1 Tryz.prog gl 108 [.sl (g.map Ty.cells), t.dv] [] (.tup [(t.typeE g).1.dv, dint (t.typeE g).2]) [] := by
  refine t_in Tryz.func108 ?_
  intro X hP hgl hf hfn hn hR hids hfit
  refine t_g0 ?_
  refine t_c1 trivial (ref01_context_ok g hg) ?_
  by_cases h : ctxN g = 0
  · have ha := ctxN_all h
    refine t_g @h ?_
    refine t_c1 trivial (ref02_typed_ok t g (by omega) ht hc ha.2) ?_
    refine t_r ?_
    simp [go_sem, hP, hgl, hn, Tm.typeE, h] <;> (try omega)
    all_goals exact t_f
  · refine t_g @h ?_
    refine t_r ?_
    simp [go_sem, hP, hgl, hn, Tm.typeE, h, zeroTy] <;> (try omega)
    all_goals exact t_f

def Tm.leastN : Tm → Int → Bool
  | .mk _ i _ a, m => !decide (m < i) && leasts a m
where
  leasts : List Tm → Int → Bool
    | [], _ => true
    | a :: r, m => a.leastN m && leasts r m
theorem Tm.leastN_eq (t : Tm) (m : Int) : t.leastN m = (!decide (m < t.index) && leastN.leasts t.args m) := by cases t; rfl
theorem Tm.leasts_append (l r : List Tm) (m : Int) : leastN.leasts (l ++ r) m = (leastN.leasts l m && leastN.leasts r m) := by
  induction l with
  | nil => simp [leastN.leasts]
  | cons a r ih => simp [leastN.leasts, ih, Bool.and_assoc]

theorem least_ok (t : Tm) (m : Int) : Con1 Tryz.prog gl 141 [t.dv, dint m] [] (dbool (t.leastN m)) [] := by
  induction t using Tm.ind with
  | h t ih =>
  refine t_in Tryz.func141 ?_
  intro X hP hgl hf hfn hn hR hids hfit
  have hlen := Tm.fit_len (hfit t.dv (by simp))
  by_cases h : m < t.index
  · refine t_g @h ?_
    refine t_r ?_
    simp [go_sem, hP, hgl, hn, Tm.leastN_eq t, h] <;> (try omega)
  · refine t_g @h ?_
    refine t_a ?_
    refine t_sub [] trivial (W_listI (t.args) (fun done => Tm.leastN.leasts done m = true) (fun done rest => [(.slot 1, .one (.v (dint m))), (.slot 14, .one (.v (dint done.length))), (.slot 13, .one (.v (dint t.args.length))), (.slot 12, .one (.v (.sl (t.args.map Tm.cells))))]) (rfl) ?_ ?_)
    · intro done x rest hL hg0 hI hnext
      have hlt : done.length < t.args.length := by rw [hL]; simp
      have hxm := List.mem_of_getElem? hg0
      refine t_rg0 ?_
      refine t_yes ?_
      refine t_g @hg0 ?_
      refine t_c1 @hg0 (ih x hxm) ?_
      by_cases hx : x.leastN m = true
      · refine t_gt (wr []) trivial @hx (hnext (by rw [Tm.leasts_append, hI]; simp [Tm.leastN.leasts, hx]))
      · refine t_g @hx ?_
        refine t_r ?_
        simp [go_sem, hP, hgl, hn, Tm.leastN_eq t, h] <;> (try omega)
        rw [hL, Tm.leasts_append]
        simp [Tm.leastN.leasts, hx]
    · intro hI
      refine t_rg0 ?_
      refine t_no ?_
      refine t_g0 ?_
      refine t_r ?_
      simp [go_sem, hP, hgl, hn, Tm.leastN_eq t, h, hI] <;> (try omega)

theorem ref05_same_ok (a b : Val) : Con1 Tryz.prog gl 27 [a.dv, b.dv] [] (dbool (a.same b)) [] := by
  induction a using Val.ind generalizing b with
  | h a ih =>
  refine t_in Tryz.func27 ?_
  intro X hP hgl hf hfn hn hR hids hfit
  have hfa := (Val.fit_eq a).1 ((Val.dv_fit a).1 (hfit a.dv (by simp)))
  have hfb := (Val.fit_eq b).1 ((Val.dv_fit b).1 (hfit b.dv (by simp)))
  have hla := hfa.2.2.2.1
  have hlb := hfb.2.2.2.1
  have hia := hfa.2.2.1.1
  have hib := hfb.2.2.1.1
  simp only [BIG] at hla hlb hia hib
  by_cases hk : a.kind = b.kind
  · by_cases hi : a.num = b.num
    · by_cases ht : a.list = b.list
      · by_cases hl : a.args.length = b.args.length
        · refine t_g (j2 @hk @hi) ?_
          refine t_c1 (j2 @hk (j2 @hi (j2 @ht @hl))) (ref05_ints_ok a.list b.list hia hib) ?_
          refine t_g (j2 @ht @hl) ?_
          refine t_a ?_
          refine t_sub [] (j2 @hk (j2 @hi (j2 @hl @ht))) (W_upto (a.args.length) (fun i => ∀ (j : Nat) (x y : Val), j < i → a.args[j]? = some x → b.args[j]? = some y → x.same y = true) (fun i => [(.slot 38, .one (.v (dint i))), (.slot 37, .one (.v (dint a.args.length))), (.slot 3, .one (.loc 3 0)), (.loc 3, .row ([.v (dint b.kind), .v (dint b.num), .v (.sl (ints b.list)), .v (.sl (b.args.map Val.cells))])), (.slot 2, .one (.loc 2 0)), (.loc 2, .row ([.v (dint a.kind), .v (dint a.num), .v (.sl (ints a.list)), .v (.sl (a.args.map Val.cells))]))]) (by intro j x y h; omega) ?_ ?_)
          · intro i hlt hI hnext
            obtain ⟨x, hx⟩ : ∃ x, a.args[i]? = some x := ⟨_, List.getElem?_eq_getElem hlt⟩
            obtain ⟨y, hy⟩ : ∃ y, b.args[i]? = some y := ⟨_, List.getElem?_eq_getElem (by omega)⟩
            refine t_rg0 ?_
            refine t_yes ?_
            refine t_g (j2 @hx @hy) ?_
            refine t_c1 (j2 @hx @hy) (ih x (List.mem_of_getElem? hx) y) ?_
            by_cases hs : x.same y = true
            · refine t_gt (wr []) trivial @hs (hnext ?_)
              intro j x' y' hj hx' hy'
              by_cases hji : j = i
              · subst hji; rw [hx] at hx'; rw [hy] at hy'; cases hx'; cases hy'; exact hs
              · exact hI j x' y' (by omega) hx' hy'
            · refine t_g @hs ?_
              refine t_r ?_
              simp [go_sem, hP, hgl, hn] <;> (try omega)
              refine Bool.eq_false_iff.2 ?_
              intro h
              rw [Val.same_eq] at h
              simp only [Bool.and_eq_true, Val.sames_iff] at h
              exact hs (h.2.2 i x y hx hy)
          · intro hI
            refine t_rg0 ?_
            refine t_no ?_
            refine t_rg0 ?_
            refine t_r ?_
            simp [go_sem, hP, hgl, hn] <;> (try omega)
            rw [Val.same_eq]
            simp only [Bool.and_eq_true, Val.sames_iff]
            exact ⟨⟨⟨by simp [hk], by simp [hi]⟩, by simp [ht]⟩, hl, fun i x y hx hy => hI i x y (List.getElem?_eq_some_iff.1 hx).1 hx hy⟩
        · refine t_g (j2 @hk @hi) ?_
          refine t_c1 (j2 @hk (j2 @hi (j2 @ht @hl))) (ref05_ints_ok a.list b.list hia hib) ?_
          refine t_g (j2 @ht @hl) ?_
          refine t_r ?_
          simp [go_sem, hP, hgl, hn] <;> (try omega)
          refine Bool.eq_false_iff.2 ?_
          intro h
          rw [Val.same_eq] at h
          simp only [Bool.and_eq_true, Val.sames_iff] at h
          exact hl h.2.1
      · refine t_g (j2 @hk @hi) ?_
        refine t_c1 (j2 @hk (j2 @hi @ht)) (ref05_ints_ok a.list b.list hia hib) ?_
        refine t_g @ht ?_
        refine t_r ?_
        simp [go_sem, hP, hgl, hn] <;> (try omega)
        simp [Val.same_eq, ht]
    · refine t_g (j2 @hk @hi) ?_
      refine t_r ?_
      simp [go_sem, hP, hgl, hn] <;> (try omega)
      simp [Val.same_eq, hi]
  · refine t_g @hk ?_
    refine t_r ?_
    simp [go_sem, hP, hgl, hn] <;> (try omega)
    simp [Val.same_eq, hk]
end Go.Proofs.YtiacandbafjlfaaGreatDoor.Lift

namespace Go.Proofs.YtiacandbafjlfaaGreatDoor.Lift
set_option linter.unusedSimpArgs false
set_option linter.unusedVariables false
set_option linter.unnecessarySimpa false
open Go
variable {gl : Globs}

def Tm.argN (t : Tm) (i : Nat) : Tm := t.args.getD i zeroTm

end Go.Proofs.YtiacandbafjlfaaGreatDoor.Lift

/-
  Plain facts: lifting, putting in, reducing.
-/
namespace Go.Proofs.YtiacandbafjlfaaGreatDoor.Lift
set_option linter.unusedSimpArgs false
set_option linter.unusedVariables false
set_option linter.unnecessarySimpa false
open Go

def bindI (k : Int) : Int := if k = 2 then 1 else 0

namespace Tm
set_option linter.unusedSimpArgs false
set_option linter.unusedVariables false
set_option linter.unnecessarySimpa false
def upN : Tm → Int → Int → Tm
  | .mk k i ty a, f, b => .mk k (if k = 1 ∧ f ≤ i then i + b else i) ty (ups a (f + bindI k) b)
where
  ups : List Tm → Int → Int → List Tm
    | [], _, _ => []
    | x :: r, f, b => x.upN f b :: ups r f b
theorem ups_map (l : List Tm) (f b : Int) : upN.ups l f b = l.map fun x => x.upN f b := by
  induction l with
  | nil => rfl
  | cons a r ih => simp [upN.ups, ih]
theorem upN_eq (t : Tm) (f b : Int) : t.upN f b = .mk t.kind (if t.kind = 1 ∧ f ≤ t.index then t.index + b else t.index) t.type (t.args.map fun x => x.upN (f + bindI t.kind) b) := by
  cases t; rw [upN, ups_map]; rfl

/-- all indexes are numbers up to m -/
def idx : Tm → Int → Prop
  | .mk _ i _ a, m => (0 ≤ i ∧ i ≤ m) ∧ idxs a m
where
  idxs : List Tm → Int → Prop
    | [], _ => True
    | x :: r, m => x.idx m ∧ idxs r m
theorem idxs_iff (l : List Tm) (m : Int) : idx.idxs l m ↔ ∀ x ∈ l, x.idx m := by
  induction l with
  | nil => simp [idx.idxs]
  | cons a r ih => simp [idx.idxs, ih]
theorem idx_eq (t : Tm) (m : Int) : t.idx m ↔ (0 ≤ t.index ∧ t.index ≤ m) ∧ ∀ x ∈ t.args, x.idx m := by cases t; simp only [idx, idxs_iff, index, args]
theorem idx_mono {t : Tm} {m n : Int} (h : m ≤ n) (hi : t.idx m) : t.idx n := by
  induction t using Tm.ind with
  | h t ih =>
  rw [idx_eq] at hi ⊢
  exact ⟨⟨hi.1.1, by omega⟩, fun x hx => ih x hx (hi.2 x hx)⟩
end Tm
end Go.Proofs.YtiacandbafjlfaaGreatDoor.Lift

namespace Go.Proofs.YtiacandbafjlfaaGreatDoor.Lift
set_option linter.unusedSimpArgs false
set_option linter.unusedVariables false
set_option linter.unnecessarySimpa false
open Go
variable {gl : Globs}

/-- several ways lead to one state, at a place that the first way tells -/
theorem W_cutX {X : Ctx} {k kk : List Item} {s : St} (S : St) (h1 : W X kk S → W X k s) (h2 : W X kk S) : W X k s := h1 h2

theorem below_ok (t : Tm) : Con1 Tryz.prog gl 148 [t.dv] [] (dint (bindI t.kind)) [] := by
  refine t_in Tryz.func148 ?_
  intro X hP hgl hf hfn hn hR hids hfit
  by_cases h : t.kind = 2
  · refine t_g @h ?_
    refine t_r ?_
    simp [go_sem, hP, hgl, hn, bindI, h] <;> (try omega)
  · refine t_g @h ?_
    refine t_r ?_
    simp [go_sem, hP, hgl, hn, bindI, h] <;> (try omega)

theorem bindI_le (k : Int) : 0 ≤ bindI k ∧ bindI k ≤ 1 := by unfold bindI; split <;> omega

theorem up_ok (t : Tm) (f b : Int) (hi : t.idx 1099511627776) (hb1 : -1099511627776 ≤ b) (hb2 : b ≤ 1099511627776) (hf0 : 0 ≤ f) (hfc : f + t.count ≤ 1099511627776) : Con1 Tryz.prog gl 142 [t.dv, dint f, dint b] [] (t.upN f b).dv [] := by
  induction t using Tm.ind generalizing f with
  | h t ih =>
  have hct := Tm.count_eq t
  have hbd := bindI_le t.kind
  have hix := (Tm.idx_eq t _).1 hi
  refine t_in Tryz.func142 ?_
  intro X hP hgl hf hfn hn hR hids hfit
  have hlen := Tm.fit_len (hfit t.dv (by simp))
  refine t_g0 ?_
  apply W_cutX [(.loc 7, .row ([.v (dint t.kind), .v (dint (if t.kind = 1 ∧ f ≤ t.index then t.index + b else t.index)), .v (dint t.type.kind), .v (.sl (t.type.args.map Ty.cells)), .own 0 []])), (.slot 7, .one (.loc 7 0)), (.slot 1, .one (.v (dint f))), (.slot 2, .one (.v (dint b))), (.loc 3, .row ([.v (dint t.kind), .v (dint t.index), .v (dint t.type.kind), .v (.sl (t.type.args.map Ty.cells)), .v (.sl (t.args.map Tm.cells))])), (.slot 3, .one (.loc 3 0)), (.loc 6, .row ([.v (dint 0), .v (dint 0), .v (dint 0), .own 0 [], .own 0 []])), (.slot 6, .one (.loc 6 0)), (.slot 34, .one (.v (dint 0))), (.slot 33, .one (.v (dint t.args.length))), (.slot 32, .one (.v (.sl (t.args.map Tm.cells))))]
  · intro hrest
    by_cases h1 : t.kind = 1
    · by_cases h2 : f ≤ t.index
      · have h2' : ¬ t.index < f := by omega
        refine t_g (j2 @h1 @h2) ?_
        refine t_b ?_
        refine t_sub [] (j2 @h1 @h2) hrest
      · refine t_g (j2 @h1 @h2) ?_
        refine t_b ?_
        refine t_sub [] (j2 @h1 @h2) hrest
    · refine t_g @h1 ?_
      refine t_b ?_
      refine t_sub [] @h1 hrest
  · refine t_a ?_
    refine t_sub [(1007, 0)] trivial (W_list (t.args) (fun done rest => [(.loc 7, .row ([.v (dint t.kind), .v (dint (if t.kind = 1 ∧ f ≤ t.index then t.index + b else t.index)), .v (dint t.type.kind), .v (.sl (t.type.args.map Ty.cells)), .own 1007 (done.map fun x => (x.upN (f + bindI t.kind) b).cells)])), (.slot 7, .one (.loc 7 0)), (.tok 1007, .tk 5 done.length), (.slot 1, .one (.v (dint f))), (.slot 2, .one (.v (dint b))), (.loc 3, .row ([.v (dint t.kind), .v (dint t.index), .v (dint t.type.kind), .v (.sl (t.type.args.map Ty.cells)), .v (.sl (t.args.map Tm.cells))])), (.slot 3, .one (.loc 3 0)), (.loc 6, .row ([.v (dint 0), .v (dint 0), .v (dint 0), .own 0 [], .own 0 []])), (.slot 6, .one (.loc 6 0)), (.slot 34, .one (.v (dint done.length))), (.slot 33, .one (.v (dint t.args.length))), (.slot 32, .one (.v (.sl (t.args.map Tm.cells))))]) ?_ ?_)
    · intro done x rest hL hg0 hnext
      have hlt : done.length < t.args.length := by rw [hL]; simp
      have hxm := List.mem_of_getElem? hg0
      have hcs := Tm.count_mem hxm
      refine t_rg0 ?_
      refine t_yes ?_
      refine t_g @hg0 ?_
      refine t_c2 @hg0 (below_ok t) (ih x hxm (f + bindI t.kind) (hix.2 x hxm) (by omega) (by omega)) ?_
      refine t_gt (wr [(1007, 48)]) (Tm.cells_eq (x.upN (f + bindI t.kind) b)) trivial hnext
    · refine t_rg0 ?_
      refine t_no ?_
      refine t_g0 ?_
      refine t_r ?_
      simp [go_sem, hP, hgl, hn] <;> (try omega)
      rw [Tm.upN_eq t]
      simp [Tm.dv, Tm.cells_eq, Tm.kind_mk, Tm.index_mk, Tm.type_mk, Tm.args_mk]

theorem ref02_var_ok (i : Int) : Con1 Tryz.prog gl 55 [dint i] [] (Tm.mk 1 i (Ty.mk 0 []) []).dv [] := by
  refine t_in Tryz.func55 ?_
  intro X hP hgl hf hfn hn hR hids hfit
  refine t_g0 ?_
  refine t_r ?_
  simp [go_sem, hP, hgl, hn] <;> (try omega)
  all_goals exact t_f

end Go.Proofs.YtiacandbafjlfaaGreatDoor.Lift

namespace Go.Proofs.YtiacandbafjlfaaGreatDoor.Lift
set_option linter.unusedSimpArgs false
set_option linter.unusedVariables false
set_option linter.unnecessarySimpa false
open Go
variable {gl : Globs}

def appT (f a : Tm) : Tm := Tm.mk 3 0 (Ty.mk 0 []) [f, a]

theorem ref02_t_ok (k : Int) (s : Ty) (l : List Tm) : Con1 Tryz.prog gl 57 [dint k, s.dv, .sl (l.map Tm.cells)] [] (Tm.mk k 0 s l).dv [] := by
  refine t_in Tryz.func57 ?_
  intro X hP hgl hf hfn hn hR hids hfit
  refine t_g0 ?_
  refine t_c1 trivial (ref02_n_ok k l) ?_
  refine t_g0 ?_
  refine t_c1 trivial (ref01_copy_ok s) ?_
  refine t_g0 ?_
  refine t_r ?_
  simp [go_sem, hP, hgl, hn] <;> (try omega)
  all_goals exact t_f

end Go.Proofs.YtiacandbafjlfaaGreatDoor.Lift

