/-
  Facts of the seat's types, printed by a program: each is proved by reckoning.
-/
import Derived.Test.YtbmnlkfgkdallaaGreatDoorL4
import Derived.Test.YtbmnlkfgkdallaaGreatDoorProg
namespace Go.Proofs.YtbmnlkfgkdallaaGreatDoor.Lift
set_option linter.unusedVariables false
open Go

theorem mixed : Tryz.prog.follows .mixedOrders = true := by kernel_rfl
-- 0: ()
theorem lay0 : layT Tryz.prog 0 = some (false, 1) := by kernel_rfl
theorem con0 : concT Tryz.prog 0 = true := by kernel_rfl
-- 1: func()
theorem lay1 : layT Tryz.prog 1 = some (false, 1) := by kernel_rfl
theorem zer1 : zeroT Tryz.prog 1 = some [.v (.prim .nilFunc)] := by kernel_rfl
theorem con1 : concT Tryz.prog 1 = true := by kernel_rfl
-- 2: int64
theorem lay2 : layT Tryz.prog 2 = some (false, 1) := by kernel_rfl
theorem zer2 : zeroT Tryz.prog 2 = some [.v (.prim (.int .i64 (0)))] := by kernel_rfl
theorem con2 : concT Tryz.prog 2 = true := by kernel_rfl
theorem int2 : intT Tryz.prog 2 = some .i64 := by kernel_rfl
-- 3: int
theorem lay3 : layT Tryz.prog 3 = some (false, 1) := by kernel_rfl
theorem zer3 : zeroT Tryz.prog 3 = some [.v (.prim (.int .i64 (0)))] := by kernel_rfl
theorem con3 : concT Tryz.prog 3 = true := by kernel_rfl
theorem int3 : intT Tryz.prog 3 = some .i64 := by kernel_rfl
-- 4: bool
theorem lay4 : layT Tryz.prog 4 = some (false, 1) := by kernel_rfl
theorem zer4 : zeroT Tryz.prog 4 = some [.v (.prim (.bool false))] := by kernel_rfl
theorem boo4 : boolT Tryz.prog 4 = true := by kernel_rfl
theorem con4 : concT Tryz.prog 4 = true := by kernel_rfl
-- 5: uint8
theorem lay5 : layT Tryz.prog 5 = some (false, 1) := by kernel_rfl
theorem zer5 : zeroT Tryz.prog 5 = some [.v (.prim (.int .u8 (0)))] := by kernel_rfl
theorem con5 : concT Tryz.prog 5 = true := by kernel_rfl
theorem int5 : intT Tryz.prog 5 = some .u8 := by kernel_rfl
-- 6: abi.BoundsErrorCode
theorem lay6 : layT Tryz.prog 6 = some (false, 1) := by kernel_rfl
theorem zer6 : zeroT Tryz.prog 6 = some [.v (.prim (.int .u8 (0)))] := by kernel_rfl
theorem con6 : concT Tryz.prog 6 = true := by kernel_rfl
theorem int6 : intT Tryz.prog 6 = some .u8 := by kernel_rfl
-- 7: struct { x int64; y int; signed bool; code abi.BoundsErrorCode }
theorem lay7 : layT Tryz.prog 7 = some (true, 4) := by kernel_rfl
theorem zer7 : zeroT Tryz.prog 7 = some [.v (.prim (.int .i64 (0))), .v (.prim (.int .i64 (0))), .v (.prim (.bool false)), .v (.prim (.int .u8 (0)))] := by kernel_rfl
theorem pla7 : placesT Tryz.prog 7 = some [(0, 1), (1, 1), (2, 1), (3, 1)] := by kernel_rfl
theorem con7 : concT Tryz.prog 7 = true := by kernel_rfl
theorem fld7_0 : fieldT Tryz.prog 7 0 = some (false, 0, 1) := by kernel_rfl
theorem fld7_1 : fieldT Tryz.prog 7 1 = some (false, 1, 1) := by kernel_rfl
theorem fld7_2 : fieldT Tryz.prog 7 2 = some (false, 2, 1) := by kernel_rfl
theorem fld7_3 : fieldT Tryz.prog 7 3 = some (false, 3, 1) := by kernel_rfl
-- 8: runtime.boundsError
theorem lay8 : layT Tryz.prog 8 = some (true, 4) := by kernel_rfl
theorem zer8 : zeroT Tryz.prog 8 = some [.v (.prim (.int .i64 (0))), .v (.prim (.int .i64 (0))), .v (.prim (.bool false)), .v (.prim (.int .u8 (0)))] := by kernel_rfl
theorem pla8 : placesT Tryz.prog 8 = some [(0, 1), (1, 1), (2, 1), (3, 1)] := by kernel_rfl
theorem con8 : concT Tryz.prog 8 = true := by kernel_rfl
theorem fld8_0 : fieldT Tryz.prog 8 0 = some (false, 0, 1) := by kernel_rfl
theorem fld8_1 : fieldT Tryz.prog 8 1 = some (false, 1, 1) := by kernel_rfl
theorem fld8_2 : fieldT Tryz.prog 8 2 = some (false, 2, 1) := by kernel_rfl
theorem fld8_3 : fieldT Tryz.prog 8 3 = some (false, 3, 1) := by kernel_rfl
-- 9: string
theorem lay9 : layT Tryz.prog 9 = some (false, 1) := by kernel_rfl
theorem zer9 : zeroT Tryz.prog 9 = some [.v (.prim (.string ByteArray.empty))] := by kernel_rfl
theorem con9 : concT Tryz.prog 9 = true := by kernel_rfl
-- 10: runtime.errorString
theorem lay10 : layT Tryz.prog 10 = some (false, 1) := by kernel_rfl
theorem zer10 : zeroT Tryz.prog 10 = some [.v (.prim (.string ByteArray.empty))] := by kernel_rfl
theorem con10 : concT Tryz.prog 10 = true := by kernel_rfl
-- 11: runtime.plainError
theorem lay11 : layT Tryz.prog 11 = some (false, 1) := by kernel_rfl
theorem zer11 : zeroT Tryz.prog 11 = some [.v (.prim (.string ByteArray.empty))] := by kernel_rfl
theorem con11 : concT Tryz.prog 11 = true := by kernel_rfl
-- 12: uintptr
theorem lay12 : layT Tryz.prog 12 = some (false, 1) := by kernel_rfl
theorem zer12 : zeroT Tryz.prog 12 = some [.v (.prim (.int .u64 (0)))] := by kernel_rfl
theorem con12 : concT Tryz.prog 12 = true := by kernel_rfl
theorem int12 : intT Tryz.prog 12 = some .u64 := by kernel_rfl
-- 13: struct { msg string; addr uintptr }
theorem lay13 : layT Tryz.prog 13 = some (true, 2) := by kernel_rfl
theorem zer13 : zeroT Tryz.prog 13 = some [.v (.prim (.string ByteArray.empty)), .v (.prim (.int .u64 (0)))] := by kernel_rfl
theorem pla13 : placesT Tryz.prog 13 = some [(0, 1), (1, 1)] := by kernel_rfl
theorem con13 : concT Tryz.prog 13 = true := by kernel_rfl
theorem fld13_0 : fieldT Tryz.prog 13 0 = some (false, 0, 1) := by kernel_rfl
theorem fld13_1 : fieldT Tryz.prog 13 1 = some (false, 1, 1) := by kernel_rfl
-- 14: runtime.errorAddressString
theorem lay14 : layT Tryz.prog 14 = some (true, 2) := by kernel_rfl
theorem zer14 : zeroT Tryz.prog 14 = some [.v (.prim (.string ByteArray.empty)), .v (.prim (.int .u64 (0)))] := by kernel_rfl
theorem pla14 : placesT Tryz.prog 14 = some [(0, 1), (1, 1)] := by kernel_rfl
theorem con14 : concT Tryz.prog 14 = true := by kernel_rfl
theorem fld14_0 : fieldT Tryz.prog 14 0 = some (false, 0, 1) := by kernel_rfl
theorem fld14_1 : fieldT Tryz.prog 14 1 = some (false, 1, 1) := by kernel_rfl
-- 15: *runtime.TypeAssertionError
theorem lay15 : layT Tryz.prog 15 = some (false, 1) := by kernel_rfl
theorem zer15 : zeroT Tryz.prog 15 = some [.v (.prim (.pointer none))] := by kernel_rfl
theorem con15 : concT Tryz.prog 15 = true := by kernel_rfl
-- 16: *runtime.PanicNilError
theorem lay16 : layT Tryz.prog 16 = some (false, 1) := by kernel_rfl
theorem zer16 : zeroT Tryz.prog 16 = some [.v (.prim (.pointer none))] := by kernel_rfl
theorem con16 : concT Tryz.prog 16 = true := by kernel_rfl
-- 17: *abi.Type
theorem lay17 : layT Tryz.prog 17 = some (false, 1) := by kernel_rfl
theorem zer17 : zeroT Tryz.prog 17 = some [.v (.prim (.pointer none))] := by kernel_rfl
theorem con17 : concT Tryz.prog 17 = true := by kernel_rfl
-- 18: struct { typ *abi.Type }
theorem lay18 : layT Tryz.prog 18 = some (true, 1) := by kernel_rfl
theorem zer18 : zeroT Tryz.prog 18 = some [.v (.prim (.pointer none))] := by kernel_rfl
theorem pla18 : placesT Tryz.prog 18 = some [(0, 1)] := by kernel_rfl
theorem con18 : concT Tryz.prog 18 = true := by kernel_rfl
theorem fld18_0 : fieldT Tryz.prog 18 0 = some (false, 0, 1) := by kernel_rfl
-- 19: maps.unhashableTypeError
theorem lay19 : layT Tryz.prog 19 = some (true, 1) := by kernel_rfl
theorem zer19 : zeroT Tryz.prog 19 = some [.v (.prim (.pointer none))] := by kernel_rfl
theorem pla19 : placesT Tryz.prog 19 = some [(0, 1)] := by kernel_rfl
theorem con19 : concT Tryz.prog 19 = true := by kernel_rfl
theorem fld19_0 : fieldT Tryz.prog 19 0 = some (false, 0, 1) := by kernel_rfl
-- 20: interface {}
theorem lay20 : layT Tryz.prog 20 = some (false, 1) := by kernel_rfl
theorem zer20 : zeroT Tryz.prog 20 = some [.v (.prim .nilIface)] := by kernel_rfl
-- 21: int32
theorem lay21 : layT Tryz.prog 21 = some (false, 1) := by kernel_rfl
theorem zer21 : zeroT Tryz.prog 21 = some [.v (.prim (.int .i32 (0)))] := by kernel_rfl
theorem con21 : concT Tryz.prog 21 = true := by kernel_rfl
theorem int21 : intT Tryz.prog 21 = some .i32 := by kernel_rfl
-- 22: []int
theorem lay22 : layT Tryz.prog 22 = some (false, 1) := by kernel_rfl
theorem zer22 : zeroT Tryz.prog 22 = some [.own 0 []] := by kernel_rfl
theorem ele22 : elemT Tryz.prog 22 = some 1 := by kernel_rfl
theorem elz22 : elemZ Tryz.prog 22 = some (1, 8) := by kernel_rfl
theorem con22 : concT Tryz.prog 22 = true := by kernel_rfl
-- 23: []api.Value
theorem lay23 : layT Tryz.prog 23 = some (false, 1) := by kernel_rfl
theorem zer23 : zeroT Tryz.prog 23 = some [.own 0 []] := by kernel_rfl
theorem ele23 : elemT Tryz.prog 23 = some 4 := by kernel_rfl
theorem elz23 : elemZ Tryz.prog 23 = some (4, 64) := by kernel_rfl
theorem con23 : concT Tryz.prog 23 = true := by kernel_rfl
-- 24: struct { Kind int; Num int; List []int; Args []api.Value }
theorem lay24 : layT Tryz.prog 24 = some (true, 4) := by kernel_rfl
theorem zer24 : zeroT Tryz.prog 24 = some [.v (.prim (.int .i64 (0))), .v (.prim (.int .i64 (0))), .own 0 [], .own 0 []] := by kernel_rfl
theorem pla24 : placesT Tryz.prog 24 = some [(0, 1), (1, 1), (2, 1), (3, 1)] := by kernel_rfl
theorem con24 : concT Tryz.prog 24 = true := by kernel_rfl
theorem fld24_0 : fieldT Tryz.prog 24 0 = some (false, 0, 1) := by kernel_rfl
theorem fld24_1 : fieldT Tryz.prog 24 1 = some (false, 1, 1) := by kernel_rfl
theorem fld24_2 : fieldT Tryz.prog 24 2 = some (false, 2, 1) := by kernel_rfl
theorem fld24_3 : fieldT Tryz.prog 24 3 = some (false, 3, 1) := by kernel_rfl
-- 25: api.Value
theorem lay25 : layT Tryz.prog 25 = some (true, 4) := by kernel_rfl
theorem zer25 : zeroT Tryz.prog 25 = some [.v (.prim (.int .i64 (0))), .v (.prim (.int .i64 (0))), .own 0 [], .own 0 []] := by kernel_rfl
theorem pla25 : placesT Tryz.prog 25 = some [(0, 1), (1, 1), (2, 1), (3, 1)] := by kernel_rfl
theorem con25 : concT Tryz.prog 25 = true := by kernel_rfl
theorem fld25_0 : fieldT Tryz.prog 25 0 = some (false, 0, 1) := by kernel_rfl
theorem fld25_1 : fieldT Tryz.prog 25 1 = some (false, 1, 1) := by kernel_rfl
theorem fld25_2 : fieldT Tryz.prog 25 2 = some (false, 2, 1) := by kernel_rfl
theorem fld25_3 : fieldT Tryz.prog 25 3 = some (false, 3, 1) := by kernel_rfl
-- 26: []api.Type
theorem lay26 : layT Tryz.prog 26 = some (false, 1) := by kernel_rfl
theorem zer26 : zeroT Tryz.prog 26 = some [.own 0 []] := by kernel_rfl
theorem ele26 : elemT Tryz.prog 26 = some 2 := by kernel_rfl
theorem elz26 : elemZ Tryz.prog 26 = some (2, 32) := by kernel_rfl
theorem con26 : concT Tryz.prog 26 = true := by kernel_rfl
-- 27: struct { Kind int; Args []api.Type }
theorem lay27 : layT Tryz.prog 27 = some (true, 2) := by kernel_rfl
theorem zer27 : zeroT Tryz.prog 27 = some [.v (.prim (.int .i64 (0))), .own 0 []] := by kernel_rfl
theorem pla27 : placesT Tryz.prog 27 = some [(0, 1), (1, 1)] := by kernel_rfl
theorem con27 : concT Tryz.prog 27 = true := by kernel_rfl
theorem fld27_0 : fieldT Tryz.prog 27 0 = some (false, 0, 1) := by kernel_rfl
theorem fld27_1 : fieldT Tryz.prog 27 1 = some (false, 1, 1) := by kernel_rfl
-- 28: api.Type
theorem lay28 : layT Tryz.prog 28 = some (true, 2) := by kernel_rfl
theorem zer28 : zeroT Tryz.prog 28 = some [.v (.prim (.int .i64 (0))), .own 0 []] := by kernel_rfl
theorem pla28 : placesT Tryz.prog 28 = some [(0, 1), (1, 1)] := by kernel_rfl
theorem con28 : concT Tryz.prog 28 = true := by kernel_rfl
theorem fld28_0 : fieldT Tryz.prog 28 0 = some (false, 0, 1) := by kernel_rfl
theorem fld28_1 : fieldT Tryz.prog 28 1 = some (false, 1, 1) := by kernel_rfl
-- 29: []api.Term
theorem lay29 : layT Tryz.prog 29 = some (false, 1) := by kernel_rfl
theorem zer29 : zeroT Tryz.prog 29 = some [.own 0 []] := by kernel_rfl
theorem ele29 : elemT Tryz.prog 29 = some 5 := by kernel_rfl
theorem elz29 : elemZ Tryz.prog 29 = some (5, 72) := by kernel_rfl
theorem con29 : concT Tryz.prog 29 = true := by kernel_rfl
-- 30: struct { Kind int; Index int; Type api.Type; Args []api.Term }
theorem lay30 : layT Tryz.prog 30 = some (true, 5) := by kernel_rfl
theorem zer30 : zeroT Tryz.prog 30 = some [.v (.prim (.int .i64 (0))), .v (.prim (.int .i64 (0))), .v (.prim (.int .i64 (0))), .own 0 [], .own 0 []] := by kernel_rfl
theorem pla30 : placesT Tryz.prog 30 = some [(0, 1), (1, 1), (2, 2), (4, 1)] := by kernel_rfl
theorem con30 : concT Tryz.prog 30 = true := by kernel_rfl
theorem fld30_0 : fieldT Tryz.prog 30 0 = some (false, 0, 1) := by kernel_rfl
theorem fld30_1 : fieldT Tryz.prog 30 1 = some (false, 1, 1) := by kernel_rfl
theorem fld30_2 : fieldT Tryz.prog 30 2 = some (true, 2, 2) := by kernel_rfl
theorem fld30_3 : fieldT Tryz.prog 30 3 = some (false, 4, 1) := by kernel_rfl
-- 31: api.Term
theorem lay31 : layT Tryz.prog 31 = some (true, 5) := by kernel_rfl
theorem zer31 : zeroT Tryz.prog 31 = some [.v (.prim (.int .i64 (0))), .v (.prim (.int .i64 (0))), .v (.prim (.int .i64 (0))), .own 0 [], .own 0 []] := by kernel_rfl
theorem pla31 : placesT Tryz.prog 31 = some [(0, 1), (1, 1), (2, 2), (4, 1)] := by kernel_rfl
theorem con31 : concT Tryz.prog 31 = true := by kernel_rfl
theorem fld31_0 : fieldT Tryz.prog 31 0 = some (false, 0, 1) := by kernel_rfl
theorem fld31_1 : fieldT Tryz.prog 31 1 = some (false, 1, 1) := by kernel_rfl
theorem fld31_2 : fieldT Tryz.prog 31 2 = some (true, 2, 2) := by kernel_rfl
theorem fld31_3 : fieldT Tryz.prog 31 3 = some (false, 4, 1) := by kernel_rfl
-- 32: func() bool
theorem lay32 : layT Tryz.prog 32 = some (false, 1) := by kernel_rfl
theorem zer32 : zeroT Tryz.prog 32 = some [.v (.prim .nilFunc)] := by kernel_rfl
theorem con32 : concT Tryz.prog 32 = true := by kernel_rfl
-- 33: func([]int) bool
theorem lay33 : layT Tryz.prog 33 = some (false, 1) := by kernel_rfl
theorem zer33 : zeroT Tryz.prog 33 = some [.v (.prim .nilFunc)] := by kernel_rfl
theorem con33 : concT Tryz.prog 33 = true := by kernel_rfl
-- 34: func(api.Value) int
theorem lay34 : layT Tryz.prog 34 = some (false, 1) := by kernel_rfl
theorem zer34 : zeroT Tryz.prog 34 = some [.v (.prim .nilFunc)] := by kernel_rfl
theorem con34 : concT Tryz.prog 34 = true := by kernel_rfl
-- 35: func(api.Term) int
theorem lay35 : layT Tryz.prog 35 = some (false, 1) := by kernel_rfl
theorem zer35 : zeroT Tryz.prog 35 = some [.v (.prim .nilFunc)] := by kernel_rfl
theorem con35 : concT Tryz.prog 35 = true := by kernel_rfl
-- 36: *proofprogramsmake.Deck
theorem lay36 : layT Tryz.prog 36 = some (false, 1) := by kernel_rfl
theorem zer36 : zeroT Tryz.prog 36 = some [.v (.prim (.pointer none))] := by kernel_rfl
theorem con36 : concT Tryz.prog 36 = true := by kernel_rfl
-- 37: func([]int) *proofprogramsmake.Deck
theorem lay37 : layT Tryz.prog 37 = some (false, 1) := by kernel_rfl
theorem zer37 : zeroT Tryz.prog 37 = some [.v (.prim .nilFunc)] := by kernel_rfl
theorem con37 : concT Tryz.prog 37 = true := by kernel_rfl
-- 38: func(*proofprogramsmake.Deck, api.Type) api.Value
theorem lay38 : layT Tryz.prog 38 = some (false, 1) := by kernel_rfl
theorem zer38 : zeroT Tryz.prog 38 = some [.v (.prim .nilFunc)] := by kernel_rfl
theorem con38 : concT Tryz.prog 38 = true := by kernel_rfl
-- 39: func(*proofprogramsmake.Deck) api.Type
theorem lay39 : layT Tryz.prog 39 = some (false, 1) := by kernel_rfl
theorem zer39 : zeroT Tryz.prog 39 = some [.v (.prim .nilFunc)] := by kernel_rfl
theorem con39 : concT Tryz.prog 39 = true := by kernel_rfl
-- 40: func(int) int
theorem lay40 : layT Tryz.prog 40 = some (false, 1) := by kernel_rfl
theorem zer40 : zeroT Tryz.prog 40 = some [.v (.prim .nilFunc)] := by kernel_rfl
theorem con40 : concT Tryz.prog 40 = true := by kernel_rfl
-- 41: api.Errno
theorem lay41 : layT Tryz.prog 41 = some (false, 1) := by kernel_rfl
theorem zer41 : zeroT Tryz.prog 41 = some [.v (.prim (.int .i64 (0)))] := by kernel_rfl
theorem con41 : concT Tryz.prog 41 = true := by kernel_rfl
theorem int41 : intT Tryz.prog 41 = some .i64 := by kernel_rfl
-- 42: (api.Type, api.Errno)
theorem lay42 : layT Tryz.prog 42 = some (false, 1) := by kernel_rfl
theorem con42 : concT Tryz.prog 42 = true := by kernel_rfl
-- 43: func(api.Value) (api.Type, api.Errno)
theorem lay43 : layT Tryz.prog 43 = some (false, 1) := by kernel_rfl
theorem zer43 : zeroT Tryz.prog 43 = some [.v (.prim .nilFunc)] := by kernel_rfl
theorem con43 : concT Tryz.prog 43 = true := by kernel_rfl
-- 44: (api.Term, api.Errno)
theorem lay44 : layT Tryz.prog 44 = some (false, 1) := by kernel_rfl
theorem con44 : concT Tryz.prog 44 = true := by kernel_rfl
-- 45: func(api.Value) (api.Term, api.Errno)
theorem lay45 : layT Tryz.prog 45 = some (false, 1) := by kernel_rfl
theorem zer45 : zeroT Tryz.prog 45 = some [.v (.prim .nilFunc)] := by kernel_rfl
theorem con45 : concT Tryz.prog 45 = true := by kernel_rfl
-- 46: func(api.Value) api.Errno
theorem lay46 : layT Tryz.prog 46 = some (false, 1) := by kernel_rfl
theorem zer46 : zeroT Tryz.prog 46 = some [.v (.prim .nilFunc)] := by kernel_rfl
theorem con46 : concT Tryz.prog 46 = true := by kernel_rfl
-- 47: func(api.Type, api.Type) bool
theorem lay47 : layT Tryz.prog 47 = some (false, 1) := by kernel_rfl
theorem zer47 : zeroT Tryz.prog 47 = some [.v (.prim .nilFunc)] := by kernel_rfl
theorem con47 : concT Tryz.prog 47 = true := by kernel_rfl
-- 48: func(api.Term, api.Term) bool
theorem lay48 : layT Tryz.prog 48 = some (false, 1) := by kernel_rfl
theorem zer48 : zeroT Tryz.prog 48 = some [.v (.prim .nilFunc)] := by kernel_rfl
theorem con48 : concT Tryz.prog 48 = true := by kernel_rfl
-- 49: func(api.Value, api.Value) bool
theorem lay49 : layT Tryz.prog 49 = some (false, 1) := by kernel_rfl
theorem zer49 : zeroT Tryz.prog 49 = some [.v (.prim .nilFunc)] := by kernel_rfl
theorem con49 : concT Tryz.prog 49 = true := by kernel_rfl
-- 50: func(*proofprogramsmake.Deck, []api.Type, api.Type, int) api.Term
theorem lay50 : layT Tryz.prog 50 = some (false, 1) := by kernel_rfl
theorem zer50 : zeroT Tryz.prog 50 = some [.v (.prim .nilFunc)] := by kernel_rfl
theorem con50 : concT Tryz.prog 50 = true := by kernel_rfl
-- 51: func(*proofprogramsmake.Deck, int) api.Type
theorem lay51 : layT Tryz.prog 51 = some (false, 1) := by kernel_rfl
theorem zer51 : zeroT Tryz.prog 51 = some [.v (.prim .nilFunc)] := by kernel_rfl
theorem con51 : concT Tryz.prog 51 = true := by kernel_rfl
-- 52: (api.Value, api.Errno)
theorem lay52 : layT Tryz.prog 52 = some (false, 1) := by kernel_rfl
theorem con52 : concT Tryz.prog 52 = true := by kernel_rfl
-- 53: func(api.Term) (api.Value, api.Errno)
theorem lay53 : layT Tryz.prog 53 = some (false, 1) := by kernel_rfl
theorem zer53 : zeroT Tryz.prog 53 = some [.v (.prim .nilFunc)] := by kernel_rfl
theorem con53 : concT Tryz.prog 53 = true := by kernel_rfl
-- 54: func(int, int) int
theorem lay54 : layT Tryz.prog 54 = some (false, 1) := by kernel_rfl
theorem zer54 : zeroT Tryz.prog 54 = some [.v (.prim .nilFunc)] := by kernel_rfl
theorem con54 : concT Tryz.prog 54 = true := by kernel_rfl
-- 55: func(int) (api.Term, api.Errno)
theorem lay55 : layT Tryz.prog 55 = some (false, 1) := by kernel_rfl
theorem zer55 : zeroT Tryz.prog 55 = some [.v (.prim .nilFunc)] := by kernel_rfl
theorem con55 : concT Tryz.prog 55 = true := by kernel_rfl
-- 56: func() api.Term
theorem lay56 : layT Tryz.prog 56 = some (false, 1) := by kernel_rfl
theorem zer56 : zeroT Tryz.prog 56 = some [.v (.prim .nilFunc)] := by kernel_rfl
theorem con56 : concT Tryz.prog 56 = true := by kernel_rfl
-- 57: func([]int, api.Value, api.Term, int) bool
theorem lay57 : layT Tryz.prog 57 = some (false, 1) := by kernel_rfl
theorem zer57 : zeroT Tryz.prog 57 = some [.v (.prim .nilFunc)] := by kernel_rfl
theorem con57 : concT Tryz.prog 57 = true := by kernel_rfl
-- 58: func(int, ...api.Term) api.Term
theorem lay58 : layT Tryz.prog 58 = some (false, 1) := by kernel_rfl
theorem zer58 : zeroT Tryz.prog 58 = some [.v (.prim .nilFunc)] := by kernel_rfl
theorem con58 : concT Tryz.prog 58 = true := by kernel_rfl
-- 59: func(api.Value, int) int
theorem lay59 : layT Tryz.prog 59 = some (false, 1) := by kernel_rfl
theorem zer59 : zeroT Tryz.prog 59 = some [.v (.prim .nilFunc)] := by kernel_rfl
theorem con59 : concT Tryz.prog 59 = true := by kernel_rfl
-- 60: func(api.Term, int) int
theorem lay60 : layT Tryz.prog 60 = some (false, 1) := by kernel_rfl
theorem zer60 : zeroT Tryz.prog 60 = some [.v (.prim .nilFunc)] := by kernel_rfl
theorem con60 : concT Tryz.prog 60 = true := by kernel_rfl
-- 61: struct { L []int; At int }
theorem lay61 : layT Tryz.prog 61 = some (true, 2) := by kernel_rfl
theorem zer61 : zeroT Tryz.prog 61 = some [.own 0 [], .v (.prim (.int .i64 (0)))] := by kernel_rfl
theorem pla61 : placesT Tryz.prog 61 = some [(0, 1), (1, 1)] := by kernel_rfl
theorem con61 : concT Tryz.prog 61 = true := by kernel_rfl
theorem fld61_0 : fieldT Tryz.prog 61 0 = some (false, 0, 1) := by kernel_rfl
theorem fld61_1 : fieldT Tryz.prog 61 1 = some (false, 1, 1) := by kernel_rfl
-- 62: proofprogramsmake.Deck
theorem lay62 : layT Tryz.prog 62 = some (true, 2) := by kernel_rfl
theorem zer62 : zeroT Tryz.prog 62 = some [.own 0 [], .v (.prim (.int .i64 (0)))] := by kernel_rfl
theorem pla62 : placesT Tryz.prog 62 = some [(0, 1), (1, 1)] := by kernel_rfl
theorem con62 : concT Tryz.prog 62 = true := by kernel_rfl
theorem fld62_0 : fieldT Tryz.prog 62 0 = some (false, 0, 1) := by kernel_rfl
theorem fld62_1 : fieldT Tryz.prog 62 1 = some (false, 1, 1) := by kernel_rfl
-- 63: func() api.Type
theorem lay63 : layT Tryz.prog 63 = some (false, 1) := by kernel_rfl
theorem zer63 : zeroT Tryz.prog 63 = some [.v (.prim .nilFunc)] := by kernel_rfl
theorem con63 : concT Tryz.prog 63 = true := by kernel_rfl
-- 64: func(api.Type, api.Type) api.Type
theorem lay64 : layT Tryz.prog 64 = some (false, 1) := by kernel_rfl
theorem zer64 : zeroT Tryz.prog 64 = some [.v (.prim .nilFunc)] := by kernel_rfl
theorem con64 : concT Tryz.prog 64 = true := by kernel_rfl
-- 65: func(api.Value) api.Type
theorem lay65 : layT Tryz.prog 65 = some (false, 1) := by kernel_rfl
theorem zer65 : zeroT Tryz.prog 65 = some [.v (.prim .nilFunc)] := by kernel_rfl
theorem con65 : concT Tryz.prog 65 = true := by kernel_rfl
-- 66: func(api.Value) api.Term
theorem lay66 : layT Tryz.prog 66 = some (false, 1) := by kernel_rfl
theorem zer66 : zeroT Tryz.prog 66 = some [.v (.prim .nilFunc)] := by kernel_rfl
theorem con66 : concT Tryz.prog 66 = true := by kernel_rfl
-- 67: (int, bool)
theorem lay67 : layT Tryz.prog 67 = some (false, 1) := by kernel_rfl
theorem con67 : concT Tryz.prog 67 = true := by kernel_rfl
-- 68: func(api.Value) (int, bool)
theorem lay68 : layT Tryz.prog 68 = some (false, 1) := by kernel_rfl
theorem zer68 : zeroT Tryz.prog 68 = some [.v (.prim .nilFunc)] := by kernel_rfl
theorem con68 : concT Tryz.prog 68 = true := by kernel_rfl
-- 69: func(api.Value) bool
theorem lay69 : layT Tryz.prog 69 = some (false, 1) := by kernel_rfl
theorem zer69 : zeroT Tryz.prog 69 = some [.v (.prim .nilFunc)] := by kernel_rfl
theorem con69 : concT Tryz.prog 69 = true := by kernel_rfl
-- 70: func([]int, []int) bool
theorem lay70 : layT Tryz.prog 70 = some (false, 1) := by kernel_rfl
theorem zer70 : zeroT Tryz.prog 70 = some [.v (.prim .nilFunc)] := by kernel_rfl
theorem con70 : concT Tryz.prog 70 = true := by kernel_rfl
-- 71: func([]api.Value, []api.Value, func(api.Value, api.Value) bool) bool
theorem lay71 : layT Tryz.prog 71 = some (false, 1) := by kernel_rfl
theorem zer71 : zeroT Tryz.prog 71 = some [.v (.prim .nilFunc)] := by kernel_rfl
theorem con71 : concT Tryz.prog 71 = true := by kernel_rfl
-- 72: func([]api.Type, api.Type) []int
theorem lay72 : layT Tryz.prog 72 = some (false, 1) := by kernel_rfl
theorem zer72 : zeroT Tryz.prog 72 = some [.v (.prim .nilFunc)] := by kernel_rfl
theorem con72 : concT Tryz.prog 72 = true := by kernel_rfl
-- 73: func(int) api.Term
theorem lay73 : layT Tryz.prog 73 = some (false, 1) := by kernel_rfl
theorem zer73 : zeroT Tryz.prog 73 = some [.v (.prim .nilFunc)] := by kernel_rfl
theorem con73 : concT Tryz.prog 73 = true := by kernel_rfl
-- 74: func(int, api.Type, ...api.Term) api.Term
theorem lay74 : layT Tryz.prog 74 = some (false, 1) := by kernel_rfl
theorem zer74 : zeroT Tryz.prog 74 = some [.v (.prim .nilFunc)] := by kernel_rfl
theorem con74 : concT Tryz.prog 74 = true := by kernel_rfl
-- 75: func([]api.Type, ...api.Type) []api.Type
theorem lay75 : layT Tryz.prog 75 = some (false, 1) := by kernel_rfl
theorem zer75 : zeroT Tryz.prog 75 = some [.v (.prim .nilFunc)] := by kernel_rfl
theorem con75 : concT Tryz.prog 75 = true := by kernel_rfl
-- 76: func(api.Term, ...api.Term) api.Term
theorem lay76 : layT Tryz.prog 76 = some (false, 1) := by kernel_rfl
theorem zer76 : zeroT Tryz.prog 76 = some [.v (.prim .nilFunc)] := by kernel_rfl
theorem con76 : concT Tryz.prog 76 = true := by kernel_rfl
-- 77: func(api.Term) api.Errno
theorem lay77 : layT Tryz.prog 77 = some (false, 1) := by kernel_rfl
theorem zer77 : zeroT Tryz.prog 77 = some [.v (.prim .nilFunc)] := by kernel_rfl
theorem con77 : concT Tryz.prog 77 = true := by kernel_rfl
-- 78: (api.Value, bool)
theorem lay78 : layT Tryz.prog 78 = some (false, 1) := by kernel_rfl
theorem con78 : concT Tryz.prog 78 = true := by kernel_rfl
-- 79: func(api.Term) (api.Value, bool)
theorem lay79 : layT Tryz.prog 79 = some (false, 1) := by kernel_rfl
theorem zer79 : zeroT Tryz.prog 79 = some [.v (.prim .nilFunc)] := by kernel_rfl
theorem con79 : concT Tryz.prog 79 = true := by kernel_rfl
-- 80: func(api.Term, ...api.Type) api.Term
theorem lay80 : layT Tryz.prog 80 = some (false, 1) := by kernel_rfl
theorem zer80 : zeroT Tryz.prog 80 = some [.v (.prim .nilFunc)] := by kernel_rfl
theorem con80 : concT Tryz.prog 80 = true := by kernel_rfl
-- 81: func(api.Term, api.Term, api.Term) api.Term
theorem lay81 : layT Tryz.prog 81 = some (false, 1) := by kernel_rfl
theorem zer81 : zeroT Tryz.prog 81 = some [.v (.prim .nilFunc)] := by kernel_rfl
theorem con81 : concT Tryz.prog 81 = true := by kernel_rfl
-- 82: func(api.Term) api.Term
theorem lay82 : layT Tryz.prog 82 = some (false, 1) := by kernel_rfl
theorem zer82 : zeroT Tryz.prog 82 = some [.v (.prim .nilFunc)] := by kernel_rfl
theorem con82 : concT Tryz.prog 82 = true := by kernel_rfl
-- 83: func(api.Type, int) int
theorem lay83 : layT Tryz.prog 83 = some (false, 1) := by kernel_rfl
theorem zer83 : zeroT Tryz.prog 83 = some [.v (.prim .nilFunc)] := by kernel_rfl
theorem con83 : concT Tryz.prog 83 = true := by kernel_rfl
-- 84: func(api.Type) api.Type
theorem lay84 : layT Tryz.prog 84 = some (false, 1) := by kernel_rfl
theorem zer84 : zeroT Tryz.prog 84 = some [.v (.prim .nilFunc)] := by kernel_rfl
theorem con84 : concT Tryz.prog 84 = true := by kernel_rfl
-- 85: func(func(int, int) bool)
theorem lay85 : layT Tryz.prog 85 = some (false, 1) := by kernel_rfl
theorem zer85 : zeroT Tryz.prog 85 = some [.v (.prim .nilFunc)] := by kernel_rfl
theorem con85 : concT Tryz.prog 85 = true := by kernel_rfl
-- 86: iter.Seq2[int,int]
theorem lay86 : layT Tryz.prog 86 = some (false, 1) := by kernel_rfl
theorem zer86 : zeroT Tryz.prog 86 = some [.v (.prim .nilFunc)] := by kernel_rfl
theorem con86 : concT Tryz.prog 86 = true := by kernel_rfl
-- 87: func([]int) iter.Seq2[int,int]
theorem lay87 : layT Tryz.prog 87 = some (false, 1) := by kernel_rfl
theorem zer87 : zeroT Tryz.prog 87 = some [.v (.prim .nilFunc)] := by kernel_rfl
theorem con87 : concT Tryz.prog 87 = true := by kernel_rfl
-- 88: func(int) bool
theorem lay88 : layT Tryz.prog 88 = some (false, 1) := by kernel_rfl
theorem zer88 : zeroT Tryz.prog 88 = some [.v (.prim .nilFunc)] := by kernel_rfl
theorem con88 : concT Tryz.prog 88 = true := by kernel_rfl
-- 89: func([]int, func(int) bool) bool
theorem lay89 : layT Tryz.prog 89 = some (false, 1) := by kernel_rfl
theorem zer89 : zeroT Tryz.prog 89 = some [.v (.prim .nilFunc)] := by kernel_rfl
theorem con89 : concT Tryz.prog 89 = true := by kernel_rfl
-- 90: (int, api.Errno)
theorem lay90 : layT Tryz.prog 90 = some (false, 1) := by kernel_rfl
theorem con90 : concT Tryz.prog 90 = true := by kernel_rfl
-- 91: func(api.Term) (int, api.Errno)
theorem lay91 : layT Tryz.prog 91 = some (false, 1) := by kernel_rfl
theorem zer91 : zeroT Tryz.prog 91 = some [.v (.prim .nilFunc)] := by kernel_rfl
theorem con91 : concT Tryz.prog 91 = true := by kernel_rfl
-- 92: func(api.Term) (int, bool)
theorem lay92 : layT Tryz.prog 92 = some (false, 1) := by kernel_rfl
theorem zer92 : zeroT Tryz.prog 92 = some [.v (.prim .nilFunc)] := by kernel_rfl
theorem con92 : concT Tryz.prog 92 = true := by kernel_rfl
-- 93: func(api.Term) bool
theorem lay93 : layT Tryz.prog 93 = some (false, 1) := by kernel_rfl
theorem zer93 : zeroT Tryz.prog 93 = some [.v (.prim .nilFunc)] := by kernel_rfl
theorem con93 : concT Tryz.prog 93 = true := by kernel_rfl
-- 94: func(int, api.Type, api.Term, api.Term, api.Term) api.Term
theorem lay94 : layT Tryz.prog 94 = some (false, 1) := by kernel_rfl
theorem zer94 : zeroT Tryz.prog 94 = some [.v (.prim .nilFunc)] := by kernel_rfl
theorem con94 : concT Tryz.prog 94 = true := by kernel_rfl
-- 95: func(int, int) bool
theorem lay95 : layT Tryz.prog 95 = some (false, 1) := by kernel_rfl
theorem zer95 : zeroT Tryz.prog 95 = some [.v (.prim .nilFunc)] := by kernel_rfl
theorem con95 : concT Tryz.prog 95 = true := by kernel_rfl
-- 96: func([]int, func(int) bool) int
theorem lay96 : layT Tryz.prog 96 = some (false, 1) := by kernel_rfl
theorem zer96 : zeroT Tryz.prog 96 = some [.v (.prim .nilFunc)] := by kernel_rfl
theorem con96 : concT Tryz.prog 96 = true := by kernel_rfl
-- 97: func(api.Type) api.Errno
theorem lay97 : layT Tryz.prog 97 = some (false, 1) := by kernel_rfl
theorem zer97 : zeroT Tryz.prog 97 = some [.v (.prim .nilFunc)] := by kernel_rfl
theorem con97 : concT Tryz.prog 97 = true := by kernel_rfl
-- 98: func(api.Type) bool
theorem lay98 : layT Tryz.prog 98 = some (false, 1) := by kernel_rfl
theorem zer98 : zeroT Tryz.prog 98 = some [.v (.prim .nilFunc)] := by kernel_rfl
theorem con98 : concT Tryz.prog 98 = true := by kernel_rfl
-- 99: func(int) (int, bool)
theorem lay99 : layT Tryz.prog 99 = some (false, 1) := by kernel_rfl
theorem zer99 : zeroT Tryz.prog 99 = some [.v (.prim .nilFunc)] := by kernel_rfl
theorem con99 : concT Tryz.prog 99 = true := by kernel_rfl
-- 100: func(api.Type) (int, api.Errno)
theorem lay100 : layT Tryz.prog 100 = some (false, 1) := by kernel_rfl
theorem zer100 : zeroT Tryz.prog 100 = some [.v (.prim .nilFunc)] := by kernel_rfl
theorem con100 : concT Tryz.prog 100 = true := by kernel_rfl
-- 101: func(api.Type) int
theorem lay101 : layT Tryz.prog 101 = some (false, 1) := by kernel_rfl
theorem zer101 : zeroT Tryz.prog 101 = some [.v (.prim .nilFunc)] := by kernel_rfl
theorem con101 : concT Tryz.prog 101 = true := by kernel_rfl
-- 102: [14]int
theorem lay102 : layT Tryz.prog 102 = some (true, 14) := by kernel_rfl
theorem zer102 : zeroT Tryz.prog 102 = some [.v (.prim (.int .i64 (0))), .v (.prim (.int .i64 (0))), .v (.prim (.int .i64 (0))), .v (.prim (.int .i64 (0))), .v (.prim (.int .i64 (0))), .v (.prim (.int .i64 (0))), .v (.prim (.int .i64 (0))), .v (.prim (.int .i64 (0))), .v (.prim (.int .i64 (0))), .v (.prim (.int .i64 (0))), .v (.prim (.int .i64 (0))), .v (.prim (.int .i64 (0))), .v (.prim (.int .i64 (0))), .v (.prim (.int .i64 (0)))] := by kernel_rfl
theorem eln102 : elemT Tryz.prog 102 = none := by kernel_rfl
theorem arr102 : arrT Tryz.prog 102 = some (14, 1) := by kernel_rfl
theorem pla102 : placesT Tryz.prog 102 = some [(0, 1), (1, 1), (2, 1), (3, 1), (4, 1), (5, 1), (6, 1), (7, 1), (8, 1), (9, 1), (10, 1), (11, 1), (12, 1), (13, 1)] := by kernel_rfl
theorem con102 : concT Tryz.prog 102 = true := by kernel_rfl
-- 103: func(api.Type) (int, bool)
theorem lay103 : layT Tryz.prog 103 = some (false, 1) := by kernel_rfl
theorem zer103 : zeroT Tryz.prog 103 = some [.v (.prim .nilFunc)] := by kernel_rfl
theorem con103 : concT Tryz.prog 103 = true := by kernel_rfl
-- 104: func() string
theorem lay104 : layT Tryz.prog 104 = some (false, 1) := by kernel_rfl
theorem zer104 : zeroT Tryz.prog 104 = some [.v (.prim .nilFunc)] := by kernel_rfl
theorem con104 : concT Tryz.prog 104 = true := by kernel_rfl
-- 105: struct { _interface *abi.Type; concrete *abi.Type; asserted *abi.Type; missingMethod string }
theorem lay105 : layT Tryz.prog 105 = some (true, 4) := by kernel_rfl
theorem zer105 : zeroT Tryz.prog 105 = some [.v (.prim (.pointer none)), .v (.prim (.pointer none)), .v (.prim (.pointer none)), .v (.prim (.string ByteArray.empty))] := by kernel_rfl
theorem pla105 : placesT Tryz.prog 105 = some [(0, 1), (1, 1), (2, 1), (3, 1)] := by kernel_rfl
theorem con105 : concT Tryz.prog 105 = true := by kernel_rfl
theorem fld105_0 : fieldT Tryz.prog 105 0 = some (false, 0, 1) := by kernel_rfl
theorem fld105_1 : fieldT Tryz.prog 105 1 = some (false, 1, 1) := by kernel_rfl
theorem fld105_2 : fieldT Tryz.prog 105 2 = some (false, 2, 1) := by kernel_rfl
theorem fld105_3 : fieldT Tryz.prog 105 3 = some (false, 3, 1) := by kernel_rfl
-- 106: runtime.TypeAssertionError
theorem lay106 : layT Tryz.prog 106 = some (true, 4) := by kernel_rfl
theorem zer106 : zeroT Tryz.prog 106 = some [.v (.prim (.pointer none)), .v (.prim (.pointer none)), .v (.prim (.pointer none)), .v (.prim (.string ByteArray.empty))] := by kernel_rfl
theorem pla106 : placesT Tryz.prog 106 = some [(0, 1), (1, 1), (2, 1), (3, 1)] := by kernel_rfl
theorem con106 : concT Tryz.prog 106 = true := by kernel_rfl
theorem fld106_0 : fieldT Tryz.prog 106 0 = some (false, 0, 1) := by kernel_rfl
theorem fld106_1 : fieldT Tryz.prog 106 1 = some (false, 1, 1) := by kernel_rfl
theorem fld106_2 : fieldT Tryz.prog 106 2 = some (false, 2, 1) := by kernel_rfl
theorem fld106_3 : fieldT Tryz.prog 106 3 = some (false, 3, 1) := by kernel_rfl
-- 107: [0]*runtime.PanicNilError
theorem lay107 : layT Tryz.prog 107 = some (true, 0) := by kernel_rfl
theorem zer107 : zeroT Tryz.prog 107 = some [] := by kernel_rfl
theorem eln107 : elemT Tryz.prog 107 = none := by kernel_rfl
theorem arr107 : arrT Tryz.prog 107 = some (0, 1) := by kernel_rfl
theorem pla107 : placesT Tryz.prog 107 = some [] := by kernel_rfl
theorem con107 : concT Tryz.prog 107 = true := by kernel_rfl
-- 108: struct { _ [0]*runtime.PanicNilError }
theorem lay108 : layT Tryz.prog 108 = some (true, 0) := by kernel_rfl
theorem zer108 : zeroT Tryz.prog 108 = some [] := by kernel_rfl
theorem pla108 : placesT Tryz.prog 108 = some [(0, 0)] := by kernel_rfl
theorem con108 : concT Tryz.prog 108 = true := by kernel_rfl
-- 109: runtime.PanicNilError
theorem lay109 : layT Tryz.prog 109 = some (true, 0) := by kernel_rfl
theorem zer109 : zeroT Tryz.prog 109 = some [] := by kernel_rfl
theorem pla109 : placesT Tryz.prog 109 = some [(0, 0)] := by kernel_rfl
theorem con109 : concT Tryz.prog 109 = true := by kernel_rfl
-- 110: func() int
theorem lay110 : layT Tryz.prog 110 = some (false, 1) := by kernel_rfl
theorem zer110 : zeroT Tryz.prog 110 = some [.v (.prim .nilFunc)] := by kernel_rfl
theorem con110 : concT Tryz.prog 110 = true := by kernel_rfl
-- 111: uint32
theorem lay111 : layT Tryz.prog 111 = some (false, 1) := by kernel_rfl
theorem zer111 : zeroT Tryz.prog 111 = some [.v (.prim (.int .u32 (0)))] := by kernel_rfl
theorem con111 : concT Tryz.prog 111 = true := by kernel_rfl
theorem int111 : intT Tryz.prog 111 = some .u32 := by kernel_rfl
-- 112: abi.TFlag
theorem lay112 : layT Tryz.prog 112 = some (false, 1) := by kernel_rfl
theorem zer112 : zeroT Tryz.prog 112 = some [.v (.prim (.int .u8 (0)))] := by kernel_rfl
theorem con112 : concT Tryz.prog 112 = true := by kernel_rfl
theorem int112 : intT Tryz.prog 112 = some .u8 := by kernel_rfl
-- 113: abi.Kind
theorem lay113 : layT Tryz.prog 113 = some (false, 1) := by kernel_rfl
theorem zer113 : zeroT Tryz.prog 113 = some [.v (.prim (.int .u8 (0)))] := by kernel_rfl
theorem con113 : concT Tryz.prog 113 = true := by kernel_rfl
theorem int113 : intT Tryz.prog 113 = some .u8 := by kernel_rfl
-- 114: func(unsafe.Pointer, unsafe.Pointer) bool
theorem lay114 : layT Tryz.prog 114 = some (false, 1) := by kernel_rfl
theorem zer114 : zeroT Tryz.prog 114 = some [.v (.prim .nilFunc)] := by kernel_rfl
theorem con114 : concT Tryz.prog 114 = true := by kernel_rfl
-- 115: *uint8
theorem lay115 : layT Tryz.prog 115 = some (false, 1) := by kernel_rfl
theorem zer115 : zeroT Tryz.prog 115 = some [.v (.prim (.pointer none))] := by kernel_rfl
theorem con115 : concT Tryz.prog 115 = true := by kernel_rfl
-- 116: abi.NameOff
theorem lay116 : layT Tryz.prog 116 = some (false, 1) := by kernel_rfl
theorem zer116 : zeroT Tryz.prog 116 = some [.v (.prim (.int .i32 (0)))] := by kernel_rfl
theorem con116 : concT Tryz.prog 116 = true := by kernel_rfl
theorem int116 : intT Tryz.prog 116 = some .i32 := by kernel_rfl
-- 117: abi.TypeOff
theorem lay117 : layT Tryz.prog 117 = some (false, 1) := by kernel_rfl
theorem zer117 : zeroT Tryz.prog 117 = some [.v (.prim (.int .i32 (0)))] := by kernel_rfl
theorem con117 : concT Tryz.prog 117 = true := by kernel_rfl
theorem int117 : intT Tryz.prog 117 = some .i32 := by kernel_rfl
-- 118: struct { Size_ uintptr; PtrBytes uintptr; Hash uint32; TFlag abi.TFlag; Align_ uint8; FieldAlign_ uint8; Kind_ abi.Kind; Equal func(unsafe.Pointer, unsafe.Pointer) bool; GCData *uint8; Str abi.NameOff; PtrToThis abi.TypeOff }
theorem lay118 : layT Tryz.prog 118 = some (true, 11) := by kernel_rfl
theorem zer118 : zeroT Tryz.prog 118 = some [.v (.prim (.int .u64 (0))), .v (.prim (.int .u64 (0))), .v (.prim (.int .u32 (0))), .v (.prim (.int .u8 (0))), .v (.prim (.int .u8 (0))), .v (.prim (.int .u8 (0))), .v (.prim (.int .u8 (0))), .v (.prim .nilFunc), .v (.prim (.pointer none)), .v (.prim (.int .i32 (0))), .v (.prim (.int .i32 (0)))] := by kernel_rfl
theorem pla118 : placesT Tryz.prog 118 = some [(0, 1), (1, 1), (2, 1), (3, 1), (4, 1), (5, 1), (6, 1), (7, 1), (8, 1), (9, 1), (10, 1)] := by kernel_rfl
theorem con118 : concT Tryz.prog 118 = true := by kernel_rfl
theorem fld118_0 : fieldT Tryz.prog 118 0 = some (false, 0, 1) := by kernel_rfl
theorem fld118_1 : fieldT Tryz.prog 118 1 = some (false, 1, 1) := by kernel_rfl
theorem fld118_2 : fieldT Tryz.prog 118 2 = some (false, 2, 1) := by kernel_rfl
theorem fld118_3 : fieldT Tryz.prog 118 3 = some (false, 3, 1) := by kernel_rfl
theorem fld118_4 : fieldT Tryz.prog 118 4 = some (false, 4, 1) := by kernel_rfl
theorem fld118_5 : fieldT Tryz.prog 118 5 = some (false, 5, 1) := by kernel_rfl
theorem fld118_6 : fieldT Tryz.prog 118 6 = some (false, 6, 1) := by kernel_rfl
theorem fld118_7 : fieldT Tryz.prog 118 7 = some (false, 7, 1) := by kernel_rfl
theorem fld118_8 : fieldT Tryz.prog 118 8 = some (false, 8, 1) := by kernel_rfl
theorem fld118_9 : fieldT Tryz.prog 118 9 = some (false, 9, 1) := by kernel_rfl
theorem fld118_10 : fieldT Tryz.prog 118 10 = some (false, 10, 1) := by kernel_rfl
-- 119: abi.Type
theorem lay119 : layT Tryz.prog 119 = some (true, 11) := by kernel_rfl
theorem zer119 : zeroT Tryz.prog 119 = some [.v (.prim (.int .u64 (0))), .v (.prim (.int .u64 (0))), .v (.prim (.int .u32 (0))), .v (.prim (.int .u8 (0))), .v (.prim (.int .u8 (0))), .v (.prim (.int .u8 (0))), .v (.prim (.int .u8 (0))), .v (.prim .nilFunc), .v (.prim (.pointer none)), .v (.prim (.int .i32 (0))), .v (.prim (.int .i32 (0)))] := by kernel_rfl
theorem pla119 : placesT Tryz.prog 119 = some [(0, 1), (1, 1), (2, 1), (3, 1), (4, 1), (5, 1), (6, 1), (7, 1), (8, 1), (9, 1), (10, 1)] := by kernel_rfl
theorem con119 : concT Tryz.prog 119 = true := by kernel_rfl
theorem fld119_0 : fieldT Tryz.prog 119 0 = some (false, 0, 1) := by kernel_rfl
theorem fld119_1 : fieldT Tryz.prog 119 1 = some (false, 1, 1) := by kernel_rfl
theorem fld119_2 : fieldT Tryz.prog 119 2 = some (false, 2, 1) := by kernel_rfl
theorem fld119_3 : fieldT Tryz.prog 119 3 = some (false, 3, 1) := by kernel_rfl
theorem fld119_4 : fieldT Tryz.prog 119 4 = some (false, 4, 1) := by kernel_rfl
theorem fld119_5 : fieldT Tryz.prog 119 5 = some (false, 5, 1) := by kernel_rfl
theorem fld119_6 : fieldT Tryz.prog 119 6 = some (false, 6, 1) := by kernel_rfl
theorem fld119_7 : fieldT Tryz.prog 119 7 = some (false, 7, 1) := by kernel_rfl
theorem fld119_8 : fieldT Tryz.prog 119 8 = some (false, 8, 1) := by kernel_rfl
theorem fld119_9 : fieldT Tryz.prog 119 9 = some (false, 9, 1) := by kernel_rfl
theorem fld119_10 : fieldT Tryz.prog 119 10 = some (false, 10, 1) := by kernel_rfl
-- 120: unsafe.Pointer
theorem lay120 : layT Tryz.prog 120 = some (false, 1) := by kernel_rfl
theorem zer120 : zeroT Tryz.prog 120 = some [.v (.prim (.pointer none))] := by kernel_rfl
theorem con120 : concT Tryz.prog 120 = true := by kernel_rfl

attribute [go_sem] lay0 con0 lay1 zer1 con1 lay2 zer2 con2 int2 lay3 zer3 con3 int3 lay4 zer4 boo4 con4 lay5 zer5 con5 int5 lay6 zer6 con6 int6 lay7 zer7 pla7 con7 fld7_0 fld7_1 fld7_2 fld7_3 lay8 zer8 pla8 con8 fld8_0 fld8_1 fld8_2 fld8_3 lay9 zer9 con9 lay10 zer10 con10 lay11 zer11 con11 lay12 zer12 con12 int12 lay13 zer13 pla13 con13 fld13_0 fld13_1 lay14 zer14 pla14 con14 fld14_0 fld14_1 lay15 zer15 con15 lay16 zer16 con16 lay17 zer17 con17 lay18 zer18 pla18 con18 fld18_0 lay19 zer19 pla19 con19 fld19_0 lay20 zer20 lay21 zer21 con21 int21 lay22 zer22 ele22 elz22 con22 lay23 zer23 ele23 elz23 con23 lay24 zer24 pla24 con24 fld24_0 fld24_1 fld24_2 fld24_3 lay25 zer25 pla25 con25 fld25_0 fld25_1 fld25_2 fld25_3 lay26 zer26 ele26 elz26 con26 lay27 zer27 pla27 con27 fld27_0 fld27_1 lay28 zer28 pla28 con28 fld28_0 fld28_1 lay29 zer29 ele29 elz29 con29 lay30 zer30 pla30 con30 fld30_0 fld30_1 fld30_2 fld30_3 lay31 zer31 pla31 con31 fld31_0 fld31_1 fld31_2 fld31_3 lay32 zer32 con32 lay33 zer33 con33 lay34 zer34 con34 lay35 zer35 con35 lay36 zer36 con36 lay37 zer37 con37 lay38 zer38 con38 lay39 zer39 con39 lay40 zer40 con40 lay41 zer41 con41 int41 lay42 con42 lay43 zer43 con43 lay44 con44 lay45 zer45 con45 lay46 zer46 con46 lay47 zer47 con47 lay48 zer48 con48 lay49 zer49 con49 lay50 zer50 con50 lay51 zer51 con51 lay52 con52 lay53 zer53 con53 lay54 zer54 con54 lay55 zer55 con55 lay56 zer56 con56 lay57 zer57 con57 lay58 zer58 con58 lay59 zer59 con59 lay60 zer60 con60 lay61 zer61 pla61 con61 fld61_0 fld61_1 lay62 zer62 pla62 con62 fld62_0 fld62_1 lay63 zer63 con63 lay64 zer64 con64 lay65 zer65 con65 lay66 zer66 con66 lay67 con67 lay68 zer68 con68 lay69 zer69 con69 lay70 zer70 con70 lay71 zer71 con71 lay72 zer72 con72 lay73 zer73 con73 lay74 zer74 con74 lay75 zer75 con75 lay76 zer76 con76 lay77 zer77 con77 lay78 con78 lay79 zer79 con79 lay80 zer80 con80 lay81 zer81 con81 lay82 zer82 con82 lay83 zer83 con83 lay84 zer84 con84 lay85 zer85 con85 lay86 zer86 con86 lay87 zer87 con87 lay88 zer88 con88 lay89 zer89 con89 lay90 con90 lay91 zer91 con91 lay92 zer92 con92 lay93 zer93 con93 lay94 zer94 con94 lay95 zer95 con95 lay96 zer96 con96 lay97 zer97 con97 lay98 zer98 con98 lay99 zer99 con99 lay100 zer100 con100 lay101 zer101 con101 lay102 zer102 eln102 arr102 pla102 con102 lay103 zer103 con103 lay104 zer104 con104 lay105 zer105 pla105 con105 fld105_0 fld105_1 fld105_2 fld105_3 lay106 zer106 pla106 con106 fld106_0 fld106_1 fld106_2 fld106_3 lay107 zer107 eln107 arr107 pla107 con107 lay108 zer108 pla108 con108 lay109 zer109 pla109 con109 lay110 zer110 con110 lay111 zer111 con111 int111 lay112 zer112 con112 int112 lay113 zer113 con113 int113 lay114 zer114 con114 lay115 zer115 con115 lay116 zer116 con116 int116 lay117 zer117 con117 int117 lay118 zer118 pla118 con118 fld118_0 fld118_1 fld118_2 fld118_3 fld118_4 fld118_5 fld118_6 fld118_7 fld118_8 fld118_9 fld118_10 lay119 zer119 pla119 con119 fld119_0 fld119_1 fld119_2 fld119_3 fld119_4 fld119_5 fld119_6 fld119_7 fld119_8 fld119_9 fld119_10 lay120 zer120 con120
end Go.Proofs.YtbmnlkfgkdallaaGreatDoor.Lift
