import Derived.Test.YteoalfdaanlbjaaGreatDoorQc2
import Derived.Test.YteoalfdaanlbjaaGreatDoorProg
/-
  Facts of the seat's types, printed by a program: each is proved by reckoning.
-/
namespace Go.Proofs.YteoalfdaanlbjaaGreatDoor.Lift
set_option linter.unusedVariables false
open Go

theorem mixed : Tryz.prog.follows .mixedOrders = true := by kernel_rfl
-- 0: ()
theorem lay0 : layT Tryz.prog 0 = some (false, 1) := by kernel_rfl
theorem con0 : concT Tryz.prog 0 = true := by kernel_rfl
-- 1: func()
theorem lay1 : layT Tryz.prog 1 = some (false, 1) := by kernel_rfl
theorem zer1 : zeroT Tryz.prog 1 = some [.v (.prim .nilFunc)] := by kernel_rfl
theorem con1 : concT Tryz.prog 1 = true := by kernel_rfl
-- 2: int64
theorem lay2 : layT Tryz.prog 2 = some (false, 1) := by kernel_rfl
theorem zer2 : zeroT Tryz.prog 2 = some [.v (.prim (.int .i64 (0)))] := by kernel_rfl
theorem con2 : concT Tryz.prog 2 = true := by kernel_rfl
theorem int2 : intT Tryz.prog 2 = some .i64 := by kernel_rfl
-- 3: int
theorem lay3 : layT Tryz.prog 3 = some (false, 1) := by kernel_rfl
theorem zer3 : zeroT Tryz.prog 3 = some [.v (.prim (.int .i64 (0)))] := by kernel_rfl
theorem con3 : concT Tryz.prog 3 = true := by kernel_rfl
theorem int3 : intT Tryz.prog 3 = some .i64 := by kernel_rfl
-- 4: bool
theorem lay4 : layT Tryz.prog 4 = some (false, 1) := by kernel_rfl
theorem zer4 : zeroT Tryz.prog 4 = some [.v (.prim (.bool false))] := by kernel_rfl
theorem boo4 : boolT Tryz.prog 4 = true := by kernel_rfl
theorem con4 : concT Tryz.prog 4 = true := by kernel_rfl
-- 5: uint8
theorem lay5 : layT Tryz.prog 5 = some (false, 1) := by kernel_rfl
theorem zer5 : zeroT Tryz.prog 5 = some [.v (.prim (.int .u8 (0)))] := by kernel_rfl
theorem con5 : concT Tryz.prog 5 = true := by kernel_rfl
theorem int5 : intT Tryz.prog 5 = some .u8 := by kernel_rfl
-- 6: abi.BoundsErrorCode
theorem lay6 : layT Tryz.prog 6 = some (false, 1) := by kernel_rfl
theorem zer6 : zeroT Tryz.prog 6 = some [.v (.prim (.int .u8 (0)))] := by kernel_rfl
theorem con6 : concT Tryz.prog 6 = true := by kernel_rfl
theorem int6 : intT Tryz.prog 6 = some .u8 := by kernel_rfl
-- 7: struct { x int64; y int; signed bool; code abi.BoundsErrorCode }
theorem lay7 : layT Tryz.prog 7 = some (true, 4) := by kernel_rfl
theorem zer7 : zeroT Tryz.prog 7 = some [.v (.prim (.int .i64 (0))), .v (.prim (.int .i64 (0))), .v (.prim (.bool false)), .v (.prim (.int .u8 (0)))] := by kernel_rfl
theorem pla7 : placesT Tryz.prog 7 = some [(0, 1), (1, 1), (2, 1), (3, 1)] := by kernel_rfl
theorem con7 : concT Tryz.prog 7 = true := by kernel_rfl
theorem fld7_0 : fieldT Tryz.prog 7 0 = some (false, 0, 1) := by kernel_rfl
theorem fld7_1 : fieldT Tryz.prog 7 1 = some (false, 1, 1) := by kernel_rfl
theorem fld7_2 : fieldT Tryz.prog 7 2 = some (false, 2, 1) := by kernel_rfl
theorem fld7_3 : fieldT Tryz.prog 7 3 = some (false, 3, 1) := by kernel_rfl
-- 8: runtime.boundsError
theorem lay8 : layT Tryz.prog 8 = some (true, 4) := by kernel_rfl
theorem zer8 : zeroT Tryz.prog 8 = some [.v (.prim (.int .i64 (0))), .v (.prim (.int .i64 (0))), .v (.prim (.bool false)), .v (.prim (.int .u8 (0)))] := by kernel_rfl
theorem pla8 : placesT Tryz.prog 8 = some [(0, 1), (1, 1), (2, 1), (3, 1)] := by kernel_rfl
theorem con8 : concT Tryz.prog 8 = true := by kernel_rfl
theorem fld8_0 : fieldT Tryz.prog 8 0 = some (false, 0, 1) := by kernel_rfl
theorem fld8_1 : fieldT Tryz.prog 8 1 = some (false, 1, 1) := by kernel_rfl
theorem fld8_2 : fieldT Tryz.prog 8 2 = some (false, 2, 1) := by kernel_rfl
theorem fld8_3 : fieldT Tryz.prog 8 3 = some (false, 3, 1) := by kernel_rfl
-- 9: string
theorem lay9 : layT Tryz.prog 9 = some (false, 1) := by kernel_rfl
theorem zer9 : zeroT Tryz.prog 9 = some [.v (.prim (.string ByteArray.empty))] := by kernel_rfl
theorem con9 : concT Tryz.prog 9 = true := by kernel_rfl
-- 10: runtime.errorString
theorem lay10 : layT Tryz.prog 10 = some (false, 1) := by kernel_rfl
theorem zer10 : zeroT Tryz.prog 10 = some [.v (.prim (.string ByteArray.empty))] := by kernel_rfl
theorem con10 : concT Tryz.prog 10 = true := by kernel_rfl
-- 11: runtime.plainError
theorem lay11 : layT Tryz.prog 11 = some (false, 1) := by kernel_rfl
theorem zer11 : zeroT Tryz.prog 11 = some [.v (.prim (.string ByteArray.empty))] := by kernel_rfl
theorem con11 : concT Tryz.prog 11 = true := by kernel_rfl
-- 12: uintptr
theorem lay12 : layT Tryz.prog 12 = some (false, 1) := by kernel_rfl
theorem zer12 : zeroT Tryz.prog 12 = some [.v (.prim (.int .u64 (0)))] := by kernel_rfl
theorem con12 : concT Tryz.prog 12 = true := by kernel_rfl
theorem int12 : intT Tryz.prog 12 = some .u64 := by kernel_rfl
-- 13: struct { msg string; addr uintptr }
theorem lay13 : layT Tryz.prog 13 = some (true, 2) := by kernel_rfl
theorem zer13 : zeroT Tryz.prog 13 = some [.v (.prim (.string ByteArray.empty)), .v (.prim (.int .u64 (0)))] := by kernel_rfl
theorem pla13 : placesT Tryz.prog 13 = some [(0, 1), (1, 1)] := by kernel_rfl
theorem con13 : concT Tryz.prog 13 = true := by kernel_rfl
theorem fld13_0 : fieldT Tryz.prog 13 0 = some (false, 0, 1) := by kernel_rfl
theorem fld13_1 : fieldT Tryz.prog 13 1 = some (false, 1, 1) := by kernel_rfl
-- 14: runtime.errorAddressString
theorem lay14 : layT Tryz.prog 14 = some (true, 2) := by kernel_rfl
theorem zer14 : zeroT Tryz.prog 14 = some [.v (.prim (.string ByteArray.empty)), .v (.prim (.int .u64 (0)))] := by kernel_rfl
theorem pla14 : placesT Tryz.prog 14 = some [(0, 1), (1, 1)] := by kernel_rfl
theorem con14 : concT Tryz.prog 14 = true := by kernel_rfl
theorem fld14_0 : fieldT Tryz.prog 14 0 = some (false, 0, 1) := by kernel_rfl
theorem fld14_1 : fieldT Tryz.prog 14 1 = some (false, 1, 1) := by kernel_rfl
-- 15: *runtime.TypeAssertionError
theorem lay15 : layT Tryz.prog 15 = some (false, 1) := by kernel_rfl
theorem zer15 : zeroT Tryz.prog 15 = some [.v (.prim (.pointer none))] := by kernel_rfl
theorem con15 : concT Tryz.prog 15 = true := by kernel_rfl
-- 16: *runtime.PanicNilError
theorem lay16 : layT Tryz.prog 16 = some (false, 1) := by kernel_rfl
theorem zer16 : zeroT Tryz.prog 16 = some [.v (.prim (.pointer none))] := by kernel_rfl
theorem con16 : concT Tryz.prog 16 = true := by kernel_rfl
-- 17: *abi.Type
theorem lay17 : layT Tryz.prog 17 = some (false, 1) := by kernel_rfl
theorem zer17 : zeroT Tryz.prog 17 = some [.v (.prim (.pointer none))] := by kernel_rfl
theorem con17 : concT Tryz.prog 17 = true := by kernel_rfl
-- 18: struct { typ *abi.Type }
theorem lay18 : layT Tryz.prog 18 = some (true, 1) := by kernel_rfl
theorem zer18 : zeroT Tryz.prog 18 = some [.v (.prim (.pointer none))] := by kernel_rfl
theorem pla18 : placesT Tryz.prog 18 = some [(0, 1)] := by kernel_rfl
theorem con18 : concT Tryz.prog 18 = true := by kernel_rfl
theorem fld18_0 : fieldT Tryz.prog 18 0 = some (false, 0, 1) := by kernel_rfl
-- 19: maps.unhashableTypeError
theorem lay19 : layT Tryz.prog 19 = some (true, 1) := by kernel_rfl
theorem zer19 : zeroT Tryz.prog 19 = some [.v (.prim (.pointer none))] := by kernel_rfl
theorem pla19 : placesT Tryz.prog 19 = some [(0, 1)] := by kernel_rfl
theorem con19 : concT Tryz.prog 19 = true := by kernel_rfl
theorem fld19_0 : fieldT Tryz.prog 19 0 = some (false, 0, 1) := by kernel_rfl
-- 20: interface {}
theorem lay20 : layT Tryz.prog 20 = some (false, 1) := by kernel_rfl
theorem zer20 : zeroT Tryz.prog 20 = some [.v (.prim .nilIface)] := by kernel_rfl
-- 21: int32
theorem lay21 : layT Tryz.prog 21 = some (false, 1) := by kernel_rfl
theorem zer21 : zeroT Tryz.prog 21 = some [.v (.prim (.int .i32 (0)))] := by kernel_rfl
theorem con21 : concT Tryz.prog 21 = true := by kernel_rfl
theorem int21 : intT Tryz.prog 21 = some .i32 := by kernel_rfl
-- 22: []int
theorem lay22 : layT Tryz.prog 22 = some (false, 1) := by kernel_rfl
theorem zer22 : zeroT Tryz.prog 22 = some [.own 0 []] := by kernel_rfl
theorem ele22 : elemT Tryz.prog 22 = some 1 := by kernel_rfl
theorem elz22 : elemZ Tryz.prog 22 = some (1, 8) := by kernel_rfl
theorem con22 : concT Tryz.prog 22 = true := by kernel_rfl
-- 23: func() bool
theorem lay23 : layT Tryz.prog 23 = some (false, 1) := by kernel_rfl
theorem zer23 : zeroT Tryz.prog 23 = some [.v (.prim .nilFunc)] := by kernel_rfl
theorem con23 : concT Tryz.prog 23 = true := by kernel_rfl
-- 24: func([]int) bool
theorem lay24 : layT Tryz.prog 24 = some (false, 1) := by kernel_rfl
theorem zer24 : zeroT Tryz.prog 24 = some [.v (.prim .nilFunc)] := by kernel_rfl
theorem con24 : concT Tryz.prog 24 = true := by kernel_rfl
-- 25: *proofprogramsmake.Deck
theorem lay25 : layT Tryz.prog 25 = some (false, 1) := by kernel_rfl
theorem zer25 : zeroT Tryz.prog 25 = some [.v (.prim (.pointer none))] := by kernel_rfl
theorem con25 : concT Tryz.prog 25 = true := by kernel_rfl
-- 26: func([]int) *proofprogramsmake.Deck
theorem lay26 : layT Tryz.prog 26 = some (false, 1) := by kernel_rfl
theorem zer26 : zeroT Tryz.prog 26 = some [.v (.prim .nilFunc)] := by kernel_rfl
theorem con26 : concT Tryz.prog 26 = true := by kernel_rfl
-- 27: []api.Type
theorem lay27 : layT Tryz.prog 27 = some (false, 1) := by kernel_rfl
theorem zer27 : zeroT Tryz.prog 27 = some [.own 0 []] := by kernel_rfl
theorem ele27 : elemT Tryz.prog 27 = some 2 := by kernel_rfl
theorem elz27 : elemZ Tryz.prog 27 = some (2, 32) := by kernel_rfl
theorem con27 : concT Tryz.prog 27 = true := by kernel_rfl
-- 28: func(*proofprogramsmake.Deck) []api.Type
theorem lay28 : layT Tryz.prog 28 = some (false, 1) := by kernel_rfl
theorem zer28 : zeroT Tryz.prog 28 = some [.v (.prim .nilFunc)] := by kernel_rfl
theorem con28 : concT Tryz.prog 28 = true := by kernel_rfl
-- 29: struct { Kind int; Args []api.Type }
theorem lay29 : layT Tryz.prog 29 = some (true, 2) := by kernel_rfl
theorem zer29 : zeroT Tryz.prog 29 = some [.v (.prim (.int .i64 (0))), .own 0 []] := by kernel_rfl
theorem pla29 : placesT Tryz.prog 29 = some [(0, 1), (1, 1)] := by kernel_rfl
theorem con29 : concT Tryz.prog 29 = true := by kernel_rfl
theorem fld29_0 : fieldT Tryz.prog 29 0 = some (false, 0, 1) := by kernel_rfl
theorem fld29_1 : fieldT Tryz.prog 29 1 = some (false, 1, 1) := by kernel_rfl
-- 30: api.Type
theorem lay30 : layT Tryz.prog 30 = some (true, 2) := by kernel_rfl
theorem zer30 : zeroT Tryz.prog 30 = some [.v (.prim (.int .i64 (0))), .own 0 []] := by kernel_rfl
theorem pla30 : placesT Tryz.prog 30 = some [(0, 1), (1, 1)] := by kernel_rfl
theorem con30 : concT Tryz.prog 30 = true := by kernel_rfl
theorem fld30_0 : fieldT Tryz.prog 30 0 = some (false, 0, 1) := by kernel_rfl
theorem fld30_1 : fieldT Tryz.prog 30 1 = some (false, 1, 1) := by kernel_rfl
-- 31: func(*proofprogramsmake.Deck, int) api.Type
theorem lay31 : layT Tryz.prog 31 = some (false, 1) := by kernel_rfl
theorem zer31 : zeroT Tryz.prog 31 = some [.v (.prim .nilFunc)] := by kernel_rfl
theorem con31 : concT Tryz.prog 31 = true := by kernel_rfl
-- 32: []api.Term
theorem lay32 : layT Tryz.prog 32 = some (false, 1) := by kernel_rfl
theorem zer32 : zeroT Tryz.prog 32 = some [.own 0 []] := by kernel_rfl
theorem ele32 : elemT Tryz.prog 32 = some 5 := by kernel_rfl
theorem elz32 : elemZ Tryz.prog 32 = some (5, 72) := by kernel_rfl
theorem con32 : concT Tryz.prog 32 = true := by kernel_rfl
-- 33: struct { Kind int; Index int; Type api.Type; Args []api.Term }
theorem lay33 : layT Tryz.prog 33 = some (true, 5) := by kernel_rfl
theorem zer33 : zeroT Tryz.prog 33 = some [.v (.prim (.int .i64 (0))), .v (.prim (.int .i64 (0))), .v (.prim (.int .i64 (0))), .own 0 [], .own 0 []] := by kernel_rfl
theorem pla33 : placesT Tryz.prog 33 = some [(0, 1), (1, 1), (2, 2), (4, 1)] := by kernel_rfl
theorem con33 : concT Tryz.prog 33 = true := by kernel_rfl
theorem fld33_0 : fieldT Tryz.prog 33 0 = some (false, 0, 1) := by kernel_rfl
theorem fld33_1 : fieldT Tryz.prog 33 1 = some (false, 1, 1) := by kernel_rfl
theorem fld33_2 : fieldT Tryz.prog 33 2 = some (true, 2, 2) := by kernel_rfl
theorem fld33_3 : fieldT Tryz.prog 33 3 = some (false, 4, 1) := by kernel_rfl
-- 34: api.Term
theorem lay34 : layT Tryz.prog 34 = some (true, 5) := by kernel_rfl
theorem zer34 : zeroT Tryz.prog 34 = some [.v (.prim (.int .i64 (0))), .v (.prim (.int .i64 (0))), .v (.prim (.int .i64 (0))), .own 0 [], .own 0 []] := by kernel_rfl
theorem pla34 : placesT Tryz.prog 34 = some [(0, 1), (1, 1), (2, 2), (4, 1)] := by kernel_rfl
theorem con34 : concT Tryz.prog 34 = true := by kernel_rfl
theorem fld34_0 : fieldT Tryz.prog 34 0 = some (false, 0, 1) := by kernel_rfl
theorem fld34_1 : fieldT Tryz.prog 34 1 = some (false, 1, 1) := by kernel_rfl
theorem fld34_2 : fieldT Tryz.prog 34 2 = some (true, 2, 2) := by kernel_rfl
theorem fld34_3 : fieldT Tryz.prog 34 3 = some (false, 4, 1) := by kernel_rfl
-- 35: api.Errno
theorem lay35 : layT Tryz.prog 35 = some (false, 1) := by kernel_rfl
theorem zer35 : zeroT Tryz.prog 35 = some [.v (.prim (.int .i64 (0)))] := by kernel_rfl
theorem con35 : concT Tryz.prog 35 = true := by kernel_rfl
theorem int35 : intT Tryz.prog 35 = some .i64 := by kernel_rfl
-- 36: (api.Term, api.Errno)
theorem lay36 : layT Tryz.prog 36 = some (false, 1) := by kernel_rfl
theorem con36 : concT Tryz.prog 36 = true := by kernel_rfl
-- 37: func(api.Term) (api.Term, api.Errno)
theorem lay37 : layT Tryz.prog 37 = some (false, 1) := by kernel_rfl
theorem zer37 : zeroT Tryz.prog 37 = some [.v (.prim .nilFunc)] := by kernel_rfl
theorem con37 : concT Tryz.prog 37 = true := by kernel_rfl
-- 38: func(*proofprogramsmake.Deck, []api.Type, api.Type, int) api.Term
theorem lay38 : layT Tryz.prog 38 = some (false, 1) := by kernel_rfl
theorem zer38 : zeroT Tryz.prog 38 = some [.v (.prim .nilFunc)] := by kernel_rfl
theorem con38 : concT Tryz.prog 38 = true := by kernel_rfl
-- 39: (api.Type, api.Errno)
theorem lay39 : layT Tryz.prog 39 = some (false, 1) := by kernel_rfl
theorem con39 : concT Tryz.prog 39 = true := by kernel_rfl
-- 40: func(api.Type) (api.Type, api.Errno)
theorem lay40 : layT Tryz.prog 40 = some (false, 1) := by kernel_rfl
theorem zer40 : zeroT Tryz.prog 40 = some [.v (.prim .nilFunc)] := by kernel_rfl
theorem con40 : concT Tryz.prog 40 = true := by kernel_rfl
-- 41: func([]api.Type, api.Term) (api.Type, api.Errno)
theorem lay41 : layT Tryz.prog 41 = some (false, 1) := by kernel_rfl
theorem zer41 : zeroT Tryz.prog 41 = some [.v (.prim .nilFunc)] := by kernel_rfl
theorem con41 : concT Tryz.prog 41 = true := by kernel_rfl
-- 42: func(api.Type, api.Type) bool
theorem lay42 : layT Tryz.prog 42 = some (false, 1) := by kernel_rfl
theorem zer42 : zeroT Tryz.prog 42 = some [.v (.prim .nilFunc)] := by kernel_rfl
theorem con42 : concT Tryz.prog 42 = true := by kernel_rfl
-- 43: []api.Value
theorem lay43 : layT Tryz.prog 43 = some (false, 1) := by kernel_rfl
theorem zer43 : zeroT Tryz.prog 43 = some [.own 0 []] := by kernel_rfl
theorem ele43 : elemT Tryz.prog 43 = some 4 := by kernel_rfl
theorem elz43 : elemZ Tryz.prog 43 = some (4, 64) := by kernel_rfl
theorem con43 : concT Tryz.prog 43 = true := by kernel_rfl
-- 44: (api.Term, []api.Value)
theorem lay44 : layT Tryz.prog 44 = some (false, 1) := by kernel_rfl
theorem con44 : concT Tryz.prog 44 = true := by kernel_rfl
-- 45: func(*proofprogramsmake.Deck) (api.Term, []api.Value)
theorem lay45 : layT Tryz.prog 45 = some (false, 1) := by kernel_rfl
theorem zer45 : zeroT Tryz.prog 45 = some [.v (.prim .nilFunc)] := by kernel_rfl
theorem con45 : concT Tryz.prog 45 = true := by kernel_rfl
-- 46: struct { Kind int; Num int; List []int; Args []api.Value }
theorem lay46 : layT Tryz.prog 46 = some (true, 4) := by kernel_rfl
theorem zer46 : zeroT Tryz.prog 46 = some [.v (.prim (.int .i64 (0))), .v (.prim (.int .i64 (0))), .own 0 [], .own 0 []] := by kernel_rfl
theorem pla46 : placesT Tryz.prog 46 = some [(0, 1), (1, 1), (2, 1), (3, 1)] := by kernel_rfl
theorem con46 : concT Tryz.prog 46 = true := by kernel_rfl
theorem fld46_0 : fieldT Tryz.prog 46 0 = some (false, 0, 1) := by kernel_rfl
theorem fld46_1 : fieldT Tryz.prog 46 1 = some (false, 1, 1) := by kernel_rfl
theorem fld46_2 : fieldT Tryz.prog 46 2 = some (false, 2, 1) := by kernel_rfl
theorem fld46_3 : fieldT Tryz.prog 46 3 = some (false, 3, 1) := by kernel_rfl
-- 47: api.Value
theorem lay47 : layT Tryz.prog 47 = some (true, 4) := by kernel_rfl
theorem zer47 : zeroT Tryz.prog 47 = some [.v (.prim (.int .i64 (0))), .v (.prim (.int .i64 (0))), .own 0 [], .own 0 []] := by kernel_rfl
theorem pla47 : placesT Tryz.prog 47 = some [(0, 1), (1, 1), (2, 1), (3, 1)] := by kernel_rfl
theorem con47 : concT Tryz.prog 47 = true := by kernel_rfl
theorem fld47_0 : fieldT Tryz.prog 47 0 = some (false, 0, 1) := by kernel_rfl
theorem fld47_1 : fieldT Tryz.prog 47 1 = some (false, 1, 1) := by kernel_rfl
theorem fld47_2 : fieldT Tryz.prog 47 2 = some (false, 2, 1) := by kernel_rfl
theorem fld47_3 : fieldT Tryz.prog 47 3 = some (false, 3, 1) := by kernel_rfl
-- 48: (api.Value, int, api.Errno)
theorem lay48 : layT Tryz.prog 48 = some (false, 1) := by kernel_rfl
theorem con48 : concT Tryz.prog 48 = true := by kernel_rfl
-- 49: func(api.Term, []api.Value, int) (api.Value, int, api.Errno)
theorem lay49 : layT Tryz.prog 49 = some (false, 1) := by kernel_rfl
theorem zer49 : zeroT Tryz.prog 49 = some [.v (.prim .nilFunc)] := by kernel_rfl
theorem con49 : concT Tryz.prog 49 = true := by kernel_rfl
-- 50: (api.Value, api.Errno)
theorem lay50 : layT Tryz.prog 50 = some (false, 1) := by kernel_rfl
theorem con50 : concT Tryz.prog 50 = true := by kernel_rfl
-- 51: func(api.Value) (api.Value, api.Errno)
theorem lay51 : layT Tryz.prog 51 = some (false, 1) := by kernel_rfl
theorem zer51 : zeroT Tryz.prog 51 = some [.v (.prim .nilFunc)] := by kernel_rfl
theorem con51 : concT Tryz.prog 51 = true := by kernel_rfl
-- 52: func(api.Errno) bool
theorem lay52 : layT Tryz.prog 52 = some (false, 1) := by kernel_rfl
theorem zer52 : zeroT Tryz.prog 52 = some [.v (.prim .nilFunc)] := by kernel_rfl
theorem con52 : concT Tryz.prog 52 = true := by kernel_rfl
-- 53: func(api.Value, api.Value) bool
theorem lay53 : layT Tryz.prog 53 = some (false, 1) := by kernel_rfl
theorem zer53 : zeroT Tryz.prog 53 = some [.v (.prim .nilFunc)] := by kernel_rfl
theorem con53 : concT Tryz.prog 53 = true := by kernel_rfl
-- 54: func(*proofprogramsmake.Deck, api.Value) api.Value
theorem lay54 : layT Tryz.prog 54 = some (false, 1) := by kernel_rfl
theorem zer54 : zeroT Tryz.prog 54 = some [.v (.prim .nilFunc)] := by kernel_rfl
theorem con54 : concT Tryz.prog 54 = true := by kernel_rfl
-- 55: func(api.Term, int, api.Term) (api.Term, api.Errno)
theorem lay55 : layT Tryz.prog 55 = some (false, 1) := by kernel_rfl
theorem zer55 : zeroT Tryz.prog 55 = some [.v (.prim .nilFunc)] := by kernel_rfl
theorem con55 : concT Tryz.prog 55 = true := by kernel_rfl
-- 56: func(api.Term, api.Term) bool
theorem lay56 : layT Tryz.prog 56 = some (false, 1) := by kernel_rfl
theorem zer56 : zeroT Tryz.prog 56 = some [.v (.prim .nilFunc)] := by kernel_rfl
theorem con56 : concT Tryz.prog 56 = true := by kernel_rfl
-- 57: struct { N int }
theorem lay57 : layT Tryz.prog 57 = some (true, 1) := by kernel_rfl
theorem zer57 : zeroT Tryz.prog 57 = some [.v (.prim (.int .i64 (0)))] := by kernel_rfl
theorem pla57 : placesT Tryz.prog 57 = some [(0, 1)] := by kernel_rfl
theorem con57 : concT Tryz.prog 57 = true := by kernel_rfl
theorem fld57_0 : fieldT Tryz.prog 57 0 = some (false, 0, 1) := by kernel_rfl
-- 58: proofprogramsplay.Sum
theorem lay58 : layT Tryz.prog 58 = some (true, 1) := by kernel_rfl
theorem zer58 : zeroT Tryz.prog 58 = some [.v (.prim (.int .i64 (0)))] := by kernel_rfl
theorem pla58 : placesT Tryz.prog 58 = some [(0, 1)] := by kernel_rfl
theorem con58 : concT Tryz.prog 58 = true := by kernel_rfl
theorem fld58_0 : fieldT Tryz.prog 58 0 = some (false, 0, 1) := by kernel_rfl
-- 59: func() proofprogramsplay.Sum
theorem lay59 : layT Tryz.prog 59 = some (false, 1) := by kernel_rfl
theorem zer59 : zeroT Tryz.prog 59 = some [.v (.prim .nilFunc)] := by kernel_rfl
theorem con59 : concT Tryz.prog 59 = true := by kernel_rfl
-- 60: func(...api.Type) proofprogramsplay.Sum
theorem lay60 : layT Tryz.prog 60 = some (false, 1) := by kernel_rfl
theorem zer60 : zeroT Tryz.prog 60 = some [.v (.prim .nilFunc)] := by kernel_rfl
theorem con60 : concT Tryz.prog 60 = true := by kernel_rfl
-- 61: func(...api.Term) proofprogramsplay.Sum
theorem lay61 : layT Tryz.prog 61 = some (false, 1) := by kernel_rfl
theorem zer61 : zeroT Tryz.prog 61 = some [.v (.prim .nilFunc)] := by kernel_rfl
theorem con61 : concT Tryz.prog 61 = true := by kernel_rfl
-- 62: func(...api.Value) proofprogramsplay.Sum
theorem lay62 : layT Tryz.prog 62 = some (false, 1) := by kernel_rfl
theorem zer62 : zeroT Tryz.prog 62 = some [.v (.prim .nilFunc)] := by kernel_rfl
theorem con62 : concT Tryz.prog 62 = true := by kernel_rfl
-- 63: func(api.Type, api.Term, api.Term) (api.Term, api.Errno)
theorem lay63 : layT Tryz.prog 63 = some (false, 1) := by kernel_rfl
theorem zer63 : zeroT Tryz.prog 63 = some [.v (.prim .nilFunc)] := by kernel_rfl
theorem con63 : concT Tryz.prog 63 = true := by kernel_rfl
-- 64: func(*proofprogramsmake.Deck, api.Type) api.Value
theorem lay64 : layT Tryz.prog 64 = some (false, 1) := by kernel_rfl
theorem zer64 : zeroT Tryz.prog 64 = some [.v (.prim .nilFunc)] := by kernel_rfl
theorem con64 : concT Tryz.prog 64 = true := by kernel_rfl
-- 65: func(*proofprogramsmake.Deck) api.Type
theorem lay65 : layT Tryz.prog 65 = some (false, 1) := by kernel_rfl
theorem zer65 : zeroT Tryz.prog 65 = some [.v (.prim .nilFunc)] := by kernel_rfl
theorem con65 : concT Tryz.prog 65 = true := by kernel_rfl
-- 66: func([]int, api.Type, api.Term, api.Term, api.Value, api.Value) bool
theorem lay66 : layT Tryz.prog 66 = some (false, 1) := by kernel_rfl
theorem zer66 : zeroT Tryz.prog 66 = some [.v (.prim .nilFunc)] := by kernel_rfl
theorem con66 : concT Tryz.prog 66 = true := by kernel_rfl
-- 67: func(int) int
theorem lay67 : layT Tryz.prog 67 = some (false, 1) := by kernel_rfl
theorem zer67 : zeroT Tryz.prog 67 = some [.v (.prim .nilFunc)] := by kernel_rfl
theorem con67 : concT Tryz.prog 67 = true := by kernel_rfl
-- 68: func() api.Type
theorem lay68 : layT Tryz.prog 68 = some (false, 1) := by kernel_rfl
theorem zer68 : zeroT Tryz.prog 68 = some [.v (.prim .nilFunc)] := by kernel_rfl
theorem con68 : concT Tryz.prog 68 = true := by kernel_rfl
-- 69: func(int) api.Term
theorem lay69 : layT Tryz.prog 69 = some (false, 1) := by kernel_rfl
theorem zer69 : zeroT Tryz.prog 69 = some [.v (.prim .nilFunc)] := by kernel_rfl
theorem con69 : concT Tryz.prog 69 = true := by kernel_rfl
-- 70: func(api.Type, api.Type) api.Type
theorem lay70 : layT Tryz.prog 70 = some (false, 1) := by kernel_rfl
theorem zer70 : zeroT Tryz.prog 70 = some [.v (.prim .nilFunc)] := by kernel_rfl
theorem con70 : concT Tryz.prog 70 = true := by kernel_rfl
-- 71: func(int, ...api.Term) api.Term
theorem lay71 : layT Tryz.prog 71 = some (false, 1) := by kernel_rfl
theorem zer71 : zeroT Tryz.prog 71 = some [.v (.prim .nilFunc)] := by kernel_rfl
theorem con71 : concT Tryz.prog 71 = true := by kernel_rfl
-- 72: func() api.Term
theorem lay72 : layT Tryz.prog 72 = some (false, 1) := by kernel_rfl
theorem zer72 : zeroT Tryz.prog 72 = some [.v (.prim .nilFunc)] := by kernel_rfl
theorem con72 : concT Tryz.prog 72 = true := by kernel_rfl
-- 73: func(api.Type, api.Term) api.Term
theorem lay73 : layT Tryz.prog 73 = some (false, 1) := by kernel_rfl
theorem zer73 : zeroT Tryz.prog 73 = some [.v (.prim .nilFunc)] := by kernel_rfl
theorem con73 : concT Tryz.prog 73 = true := by kernel_rfl
-- 74: func(api.Term, int) (api.Value, int, api.Errno)
theorem lay74 : layT Tryz.prog 74 = some (false, 1) := by kernel_rfl
theorem zer74 : zeroT Tryz.prog 74 = some [.v (.prim .nilFunc)] := by kernel_rfl
theorem con74 : concT Tryz.prog 74 = true := by kernel_rfl
-- 75: (api.Term, int, api.Errno)
theorem lay75 : layT Tryz.prog 75 = some (false, 1) := by kernel_rfl
theorem con75 : concT Tryz.prog 75 = true := by kernel_rfl
-- 76: func(api.Term, int) (api.Term, int, api.Errno)
theorem lay76 : layT Tryz.prog 76 = some (false, 1) := by kernel_rfl
theorem zer76 : zeroT Tryz.prog 76 = some [.v (.prim .nilFunc)] := by kernel_rfl
theorem con76 : concT Tryz.prog 76 = true := by kernel_rfl
-- 77: func(api.Term) (api.Value, api.Errno)
theorem lay77 : layT Tryz.prog 77 = some (false, 1) := by kernel_rfl
theorem zer77 : zeroT Tryz.prog 77 = some [.v (.prim .nilFunc)] := by kernel_rfl
theorem con77 : concT Tryz.prog 77 = true := by kernel_rfl
-- 78: struct { L []int; At int }
theorem lay78 : layT Tryz.prog 78 = some (true, 2) := by kernel_rfl
theorem zer78 : zeroT Tryz.prog 78 = some [.own 0 [], .v (.prim (.int .i64 (0)))] := by kernel_rfl
theorem pla78 : placesT Tryz.prog 78 = some [(0, 1), (1, 1)] := by kernel_rfl
theorem con78 : concT Tryz.prog 78 = true := by kernel_rfl
theorem fld78_0 : fieldT Tryz.prog 78 0 = some (false, 0, 1) := by kernel_rfl
theorem fld78_1 : fieldT Tryz.prog 78 1 = some (false, 1, 1) := by kernel_rfl
-- 79: proofprogramsmake.Deck
theorem lay79 : layT Tryz.prog 79 = some (true, 2) := by kernel_rfl
theorem zer79 : zeroT Tryz.prog 79 = some [.own 0 [], .v (.prim (.int .i64 (0)))] := by kernel_rfl
theorem pla79 : placesT Tryz.prog 79 = some [(0, 1), (1, 1)] := by kernel_rfl
theorem con79 : concT Tryz.prog 79 = true := by kernel_rfl
theorem fld79_0 : fieldT Tryz.prog 79 0 = some (false, 0, 1) := by kernel_rfl
theorem fld79_1 : fieldT Tryz.prog 79 1 = some (false, 1, 1) := by kernel_rfl
-- 80: func(api.Term) api.Errno
theorem lay80 : layT Tryz.prog 80 = some (false, 1) := by kernel_rfl
theorem zer80 : zeroT Tryz.prog 80 = some [.v (.prim .nilFunc)] := by kernel_rfl
theorem con80 : concT Tryz.prog 80 = true := by kernel_rfl
-- 81: func(api.Term) bool
theorem lay81 : layT Tryz.prog 81 = some (false, 1) := by kernel_rfl
theorem zer81 : zeroT Tryz.prog 81 = some [.v (.prim .nilFunc)] := by kernel_rfl
theorem con81 : concT Tryz.prog 81 = true := by kernel_rfl
-- 82: func(func(*majorant.maker) api.Term) (api.Term, api.Errno)
theorem lay82 : layT Tryz.prog 82 = some (false, 1) := by kernel_rfl
theorem zer82 : zeroT Tryz.prog 82 = some [.v (.prim .nilFunc)] := by kernel_rfl
theorem con82 : concT Tryz.prog 82 = true := by kernel_rfl
-- 83: *majorant.maker
theorem lay83 : layT Tryz.prog 83 = some (false, 1) := by kernel_rfl
theorem zer83 : zeroT Tryz.prog 83 = some [.v (.prim (.pointer none))] := by kernel_rfl
theorem con83 : concT Tryz.prog 83 = true := by kernel_rfl
-- 84: func(api.Term) api.Term
theorem lay84 : layT Tryz.prog 84 = some (false, 1) := by kernel_rfl
theorem zer84 : zeroT Tryz.prog 84 = some [.v (.prim .nilFunc)] := by kernel_rfl
theorem con84 : concT Tryz.prog 84 = true := by kernel_rfl
-- 85: func(*majorant.maker) api.Term
theorem lay85 : layT Tryz.prog 85 = some (false, 1) := by kernel_rfl
theorem zer85 : zeroT Tryz.prog 85 = some [.v (.prim .nilFunc)] := by kernel_rfl
theorem con85 : concT Tryz.prog 85 = true := by kernel_rfl
-- 86: func([]api.Type, api.Type) []int
theorem lay86 : layT Tryz.prog 86 = some (false, 1) := by kernel_rfl
theorem zer86 : zeroT Tryz.prog 86 = some [.v (.prim .nilFunc)] := by kernel_rfl
theorem con86 : concT Tryz.prog 86 = true := by kernel_rfl
-- 87: func(int, api.Type, ...api.Term) api.Term
theorem lay87 : layT Tryz.prog 87 = some (false, 1) := by kernel_rfl
theorem zer87 : zeroT Tryz.prog 87 = some [.v (.prim .nilFunc)] := by kernel_rfl
theorem con87 : concT Tryz.prog 87 = true := by kernel_rfl
-- 88: func([]api.Type, ...api.Type) []api.Type
theorem lay88 : layT Tryz.prog 88 = some (false, 1) := by kernel_rfl
theorem zer88 : zeroT Tryz.prog 88 = some [.v (.prim .nilFunc)] := by kernel_rfl
theorem con88 : concT Tryz.prog 88 = true := by kernel_rfl
-- 89: func(api.Term, ...api.Term) api.Term
theorem lay89 : layT Tryz.prog 89 = some (false, 1) := by kernel_rfl
theorem zer89 : zeroT Tryz.prog 89 = some [.v (.prim .nilFunc)] := by kernel_rfl
theorem con89 : concT Tryz.prog 89 = true := by kernel_rfl
-- 90: func(api.Type) api.Errno
theorem lay90 : layT Tryz.prog 90 = some (false, 1) := by kernel_rfl
theorem zer90 : zeroT Tryz.prog 90 = some [.v (.prim .nilFunc)] := by kernel_rfl
theorem con90 : concT Tryz.prog 90 = true := by kernel_rfl
-- 91: func(api.Type) api.Type
theorem lay91 : layT Tryz.prog 91 = some (false, 1) := by kernel_rfl
theorem zer91 : zeroT Tryz.prog 91 = some [.v (.prim .nilFunc)] := by kernel_rfl
theorem con91 : concT Tryz.prog 91 = true := by kernel_rfl
-- 92: func([]api.Type) api.Errno
theorem lay92 : layT Tryz.prog 92 = some (false, 1) := by kernel_rfl
theorem zer92 : zeroT Tryz.prog 92 = some [.v (.prim .nilFunc)] := by kernel_rfl
theorem con92 : concT Tryz.prog 92 = true := by kernel_rfl
-- 93: func(api.Value) (api.Type, api.Errno)
theorem lay93 : layT Tryz.prog 93 = some (false, 1) := by kernel_rfl
theorem zer93 : zeroT Tryz.prog 93 = some [.v (.prim .nilFunc)] := by kernel_rfl
theorem con93 : concT Tryz.prog 93 = true := by kernel_rfl
-- 94: (bool, api.Errno)
theorem lay94 : layT Tryz.prog 94 = some (false, 1) := by kernel_rfl
theorem con94 : concT Tryz.prog 94 = true := by kernel_rfl
-- 95: func(api.Type) (bool, api.Errno)
theorem lay95 : layT Tryz.prog 95 = some (false, 1) := by kernel_rfl
theorem zer95 : zeroT Tryz.prog 95 = some [.v (.prim .nilFunc)] := by kernel_rfl
theorem con95 : concT Tryz.prog 95 = true := by kernel_rfl
-- 96: *proofprogramsref06.machine
theorem lay96 : layT Tryz.prog 96 = some (false, 1) := by kernel_rfl
theorem zer96 : zeroT Tryz.prog 96 = some [.v (.prim (.pointer none))] := by kernel_rfl
theorem con96 : concT Tryz.prog 96 = true := by kernel_rfl
-- 97: struct { used int; most int; out bool }
theorem lay97 : layT Tryz.prog 97 = some (true, 3) := by kernel_rfl
theorem zer97 : zeroT Tryz.prog 97 = some [.v (.prim (.int .i64 (0))), .v (.prim (.int .i64 (0))), .v (.prim (.bool false))] := by kernel_rfl
theorem pla97 : placesT Tryz.prog 97 = some [(0, 1), (1, 1), (2, 1)] := by kernel_rfl
theorem con97 : concT Tryz.prog 97 = true := by kernel_rfl
theorem fld97_0 : fieldT Tryz.prog 97 0 = some (false, 0, 1) := by kernel_rfl
theorem fld97_1 : fieldT Tryz.prog 97 1 = some (false, 1, 1) := by kernel_rfl
theorem fld97_2 : fieldT Tryz.prog 97 2 = some (false, 2, 1) := by kernel_rfl
-- 98: proofprogramsref06.machine
theorem lay98 : layT Tryz.prog 98 = some (true, 3) := by kernel_rfl
theorem zer98 : zeroT Tryz.prog 98 = some [.v (.prim (.int .i64 (0))), .v (.prim (.int .i64 (0))), .v (.prim (.bool false))] := by kernel_rfl
theorem pla98 : placesT Tryz.prog 98 = some [(0, 1), (1, 1), (2, 1)] := by kernel_rfl
theorem con98 : concT Tryz.prog 98 = true := by kernel_rfl
theorem fld98_0 : fieldT Tryz.prog 98 0 = some (false, 0, 1) := by kernel_rfl
theorem fld98_1 : fieldT Tryz.prog 98 1 = some (false, 1, 1) := by kernel_rfl
theorem fld98_2 : fieldT Tryz.prog 98 2 = some (false, 2, 1) := by kernel_rfl
-- 99: []proofprogramsref06.result
theorem lay99 : layT Tryz.prog 99 = some (false, 1) := by kernel_rfl
theorem zer99 : zeroT Tryz.prog 99 = some [.own 0 []] := by kernel_rfl
theorem ele99 : elemT Tryz.prog 99 = some 9 := by kernel_rfl
theorem elz99 : elemZ Tryz.prog 99 = some (9, 152) := by kernel_rfl
theorem con99 : concT Tryz.prog 99 = true := by kernel_rfl
-- 100: struct { num int; list []int; pair []proofprogramsref06.result; body api.Term; env []proofprogramsref06.result }
theorem lay100 : layT Tryz.prog 100 = some (true, 9) := by kernel_rfl
theorem zer100 : zeroT Tryz.prog 100 = some [.v (.prim (.int .i64 (0))), .own 0 [], .own 0 [], .v (.prim (.int .i64 (0))), .v (.prim (.int .i64 (0))), .v (.prim (.int .i64 (0))), .own 0 [], .own 0 [], .own 0 []] := by kernel_rfl
theorem pla100 : placesT Tryz.prog 100 = some [(0, 1), (1, 1), (2, 1), (3, 5), (8, 1)] := by kernel_rfl
theorem con100 : concT Tryz.prog 100 = true := by kernel_rfl
theorem fld100_0 : fieldT Tryz.prog 100 0 = some (false, 0, 1) := by kernel_rfl
theorem fld100_1 : fieldT Tryz.prog 100 1 = some (false, 1, 1) := by kernel_rfl
theorem fld100_2 : fieldT Tryz.prog 100 2 = some (false, 2, 1) := by kernel_rfl
theorem fld100_3 : fieldT Tryz.prog 100 3 = some (true, 3, 5) := by kernel_rfl
theorem fld100_4 : fieldT Tryz.prog 100 4 = some (false, 8, 1) := by kernel_rfl
-- 101: proofprogramsref06.result
theorem lay101 : layT Tryz.prog 101 = some (true, 9) := by kernel_rfl
theorem zer101 : zeroT Tryz.prog 101 = some [.v (.prim (.int .i64 (0))), .own 0 [], .own 0 [], .v (.prim (.int .i64 (0))), .v (.prim (.int .i64 (0))), .v (.prim (.int .i64 (0))), .own 0 [], .own 0 [], .own 0 []] := by kernel_rfl
theorem pla101 : placesT Tryz.prog 101 = some [(0, 1), (1, 1), (2, 1), (3, 5), (8, 1)] := by kernel_rfl
theorem con101 : concT Tryz.prog 101 = true := by kernel_rfl
theorem fld101_0 : fieldT Tryz.prog 101 0 = some (false, 0, 1) := by kernel_rfl
theorem fld101_1 : fieldT Tryz.prog 101 1 = some (false, 1, 1) := by kernel_rfl
theorem fld101_2 : fieldT Tryz.prog 101 2 = some (false, 2, 1) := by kernel_rfl
theorem fld101_3 : fieldT Tryz.prog 101 3 = some (true, 3, 5) := by kernel_rfl
theorem fld101_4 : fieldT Tryz.prog 101 4 = some (false, 8, 1) := by kernel_rfl
-- 102: func(api.Term, []proofprogramsref06.result) proofprogramsref06.result
theorem lay102 : layT Tryz.prog 102 = some (false, 1) := by kernel_rfl
theorem zer102 : zeroT Tryz.prog 102 = some [.v (.prim .nilFunc)] := by kernel_rfl
theorem con102 : concT Tryz.prog 102 = true := by kernel_rfl
-- 103: func(proofprogramsref06.result, proofprogramsref06.result) proofprogramsref06.result
theorem lay103 : layT Tryz.prog 103 = some (false, 1) := by kernel_rfl
theorem zer103 : zeroT Tryz.prog 103 = some [.v (.prim .nilFunc)] := by kernel_rfl
theorem con103 : concT Tryz.prog 103 = true := by kernel_rfl
-- 104: func(api.Value) proofprogramsref06.result
theorem lay104 : layT Tryz.prog 104 = some (false, 1) := by kernel_rfl
theorem zer104 : zeroT Tryz.prog 104 = some [.v (.prim .nilFunc)] := by kernel_rfl
theorem con104 : concT Tryz.prog 104 = true := by kernel_rfl
-- 105: func(proofprogramsref06.result, api.Type) api.Value
theorem lay105 : layT Tryz.prog 105 = some (false, 1) := by kernel_rfl
theorem zer105 : zeroT Tryz.prog 105 = some [.v (.prim .nilFunc)] := by kernel_rfl
theorem con105 : concT Tryz.prog 105 = true := by kernel_rfl
-- 106: func(api.Value) api.Errno
theorem lay106 : layT Tryz.prog 106 = some (false, 1) := by kernel_rfl
theorem zer106 : zeroT Tryz.prog 106 = some [.v (.prim .nilFunc)] := by kernel_rfl
theorem con106 : concT Tryz.prog 106 = true := by kernel_rfl
-- 107: func(api.Value) api.Value
theorem lay107 : layT Tryz.prog 107 = some (false, 1) := by kernel_rfl
theorem zer107 : zeroT Tryz.prog 107 = some [.v (.prim .nilFunc)] := by kernel_rfl
theorem con107 : concT Tryz.prog 107 = true := by kernel_rfl
-- 108: func(api.Term, int) bool
theorem lay108 : layT Tryz.prog 108 = some (false, 1) := by kernel_rfl
theorem zer108 : zeroT Tryz.prog 108 = some [.v (.prim .nilFunc)] := by kernel_rfl
theorem con108 : concT Tryz.prog 108 = true := by kernel_rfl
-- 109: func(api.Term) int
theorem lay109 : layT Tryz.prog 109 = some (false, 1) := by kernel_rfl
theorem zer109 : zeroT Tryz.prog 109 = some [.v (.prim .nilFunc)] := by kernel_rfl
theorem con109 : concT Tryz.prog 109 = true := by kernel_rfl
-- 110: func(api.Term, int) int
theorem lay110 : layT Tryz.prog 110 = some (false, 1) := by kernel_rfl
theorem zer110 : zeroT Tryz.prog 110 = some [.v (.prim .nilFunc)] := by kernel_rfl
theorem con110 : concT Tryz.prog 110 = true := by kernel_rfl
-- 111: func(api.Term, int, int, api.Term) api.Term
theorem lay111 : layT Tryz.prog 111 = some (false, 1) := by kernel_rfl
theorem zer111 : zeroT Tryz.prog 111 = some [.v (.prim .nilFunc)] := by kernel_rfl
theorem con111 : concT Tryz.prog 111 = true := by kernel_rfl
-- 112: func(api.Type, int) int
theorem lay112 : layT Tryz.prog 112 = some (false, 1) := by kernel_rfl
theorem zer112 : zeroT Tryz.prog 112 = some [.v (.prim .nilFunc)] := by kernel_rfl
theorem con112 : concT Tryz.prog 112 = true := by kernel_rfl
-- 113: func(api.Value, int) int
theorem lay113 : layT Tryz.prog 113 = some (false, 1) := by kernel_rfl
theorem zer113 : zeroT Tryz.prog 113 = some [.v (.prim .nilFunc)] := by kernel_rfl
theorem con113 : concT Tryz.prog 113 = true := by kernel_rfl
-- 114: func(api.Type) bool
theorem lay114 : layT Tryz.prog 114 = some (false, 1) := by kernel_rfl
theorem zer114 : zeroT Tryz.prog 114 = some [.v (.prim .nilFunc)] := by kernel_rfl
theorem con114 : concT Tryz.prog 114 = true := by kernel_rfl
-- 115: func(api.Type, api.Term, api.Term) api.Term
theorem lay115 : layT Tryz.prog 115 = some (false, 1) := by kernel_rfl
theorem zer115 : zeroT Tryz.prog 115 = some [.v (.prim .nilFunc)] := by kernel_rfl
theorem con115 : concT Tryz.prog 115 = true := by kernel_rfl
-- 116: func([]int, []int) bool
theorem lay116 : layT Tryz.prog 116 = some (false, 1) := by kernel_rfl
theorem zer116 : zeroT Tryz.prog 116 = some [.v (.prim .nilFunc)] := by kernel_rfl
theorem con116 : concT Tryz.prog 116 = true := by kernel_rfl
-- 117: func(int, int) int
theorem lay117 : layT Tryz.prog 117 = some (false, 1) := by kernel_rfl
theorem zer117 : zeroT Tryz.prog 117 = some [.v (.prim .nilFunc)] := by kernel_rfl
theorem con117 : concT Tryz.prog 117 = true := by kernel_rfl
-- 118: func(int) (api.Term, api.Errno)
theorem lay118 : layT Tryz.prog 118 = some (false, 1) := by kernel_rfl
theorem zer118 : zeroT Tryz.prog 118 = some [.v (.prim .nilFunc)] := by kernel_rfl
theorem con118 : concT Tryz.prog 118 = true := by kernel_rfl
-- 119: (api.Term, bool, bool)
theorem lay119 : layT Tryz.prog 119 = some (false, 1) := by kernel_rfl
theorem con119 : concT Tryz.prog 119 = true := by kernel_rfl
-- 120: func(api.Term, int) (api.Term, bool, bool)
theorem lay120 : layT Tryz.prog 120 = some (false, 1) := by kernel_rfl
theorem zer120 : zeroT Tryz.prog 120 = some [.v (.prim .nilFunc)] := by kernel_rfl
theorem con120 : concT Tryz.prog 120 = true := by kernel_rfl
-- 121: (api.Value, bool)
theorem lay121 : layT Tryz.prog 121 = some (false, 1) := by kernel_rfl
theorem con121 : concT Tryz.prog 121 = true := by kernel_rfl
-- 122: func(api.Term) (api.Value, bool)
theorem lay122 : layT Tryz.prog 122 = some (false, 1) := by kernel_rfl
theorem zer122 : zeroT Tryz.prog 122 = some [.v (.prim .nilFunc)] := by kernel_rfl
theorem con122 : concT Tryz.prog 122 = true := by kernel_rfl
-- 123: func(api.Value) int
theorem lay123 : layT Tryz.prog 123 = some (false, 1) := by kernel_rfl
theorem zer123 : zeroT Tryz.prog 123 = some [.v (.prim .nilFunc)] := by kernel_rfl
theorem con123 : concT Tryz.prog 123 = true := by kernel_rfl
-- 124: (int, api.Errno)
theorem lay124 : layT Tryz.prog 124 = some (false, 1) := by kernel_rfl
theorem con124 : concT Tryz.prog 124 = true := by kernel_rfl
-- 125: func(api.Term) (int, api.Errno)
theorem lay125 : layT Tryz.prog 125 = some (false, 1) := by kernel_rfl
theorem zer125 : zeroT Tryz.prog 125 = some [.v (.prim .nilFunc)] := by kernel_rfl
theorem con125 : concT Tryz.prog 125 = true := by kernel_rfl
-- 126: struct { err api.Errno }
theorem lay126 : layT Tryz.prog 126 = some (true, 1) := by kernel_rfl
theorem zer126 : zeroT Tryz.prog 126 = some [.v (.prim (.int .i64 (0)))] := by kernel_rfl
theorem pla126 : placesT Tryz.prog 126 = some [(0, 1)] := by kernel_rfl
theorem con126 : concT Tryz.prog 126 = true := by kernel_rfl
theorem fld126_0 : fieldT Tryz.prog 126 0 = some (false, 0, 1) := by kernel_rfl
-- 127: majorant.maker
theorem lay127 : layT Tryz.prog 127 = some (true, 1) := by kernel_rfl
theorem zer127 : zeroT Tryz.prog 127 = some [.v (.prim (.int .i64 (0)))] := by kernel_rfl
theorem pla127 : placesT Tryz.prog 127 = some [(0, 1)] := by kernel_rfl
theorem con127 : concT Tryz.prog 127 = true := by kernel_rfl
theorem fld127_0 : fieldT Tryz.prog 127 0 = some (false, 0, 1) := by kernel_rfl
-- 128: func(api.Term, int, int) api.Term
theorem lay128 : layT Tryz.prog 128 = some (false, 1) := by kernel_rfl
theorem zer128 : zeroT Tryz.prog 128 = some [.v (.prim .nilFunc)] := by kernel_rfl
theorem con128 : concT Tryz.prog 128 = true := by kernel_rfl
-- 129: func(api.Term, api.Term, api.Term) api.Term
theorem lay129 : layT Tryz.prog 129 = some (false, 1) := by kernel_rfl
theorem zer129 : zeroT Tryz.prog 129 = some [.v (.prim .nilFunc)] := by kernel_rfl
theorem con129 : concT Tryz.prog 129 = true := by kernel_rfl
-- 130: func(api.Type) (int, api.Errno)
theorem lay130 : layT Tryz.prog 130 = some (false, 1) := by kernel_rfl
theorem zer130 : zeroT Tryz.prog 130 = some [.v (.prim .nilFunc)] := by kernel_rfl
theorem con130 : concT Tryz.prog 130 = true := by kernel_rfl
-- 131: func(api.Value) api.Type
theorem lay131 : layT Tryz.prog 131 = some (false, 1) := by kernel_rfl
theorem zer131 : zeroT Tryz.prog 131 = some [.v (.prim .nilFunc)] := by kernel_rfl
theorem con131 : concT Tryz.prog 131 = true := by kernel_rfl
-- 132: func(api.Type) int
theorem lay132 : layT Tryz.prog 132 = some (false, 1) := by kernel_rfl
theorem zer132 : zeroT Tryz.prog 132 = some [.v (.prim .nilFunc)] := by kernel_rfl
theorem con132 : concT Tryz.prog 132 = true := by kernel_rfl
-- 133: (int, bool)
theorem lay133 : layT Tryz.prog 133 = some (false, 1) := by kernel_rfl
theorem con133 : concT Tryz.prog 133 = true := by kernel_rfl
-- 134: func(api.Value) (int, bool)
theorem lay134 : layT Tryz.prog 134 = some (false, 1) := by kernel_rfl
theorem zer134 : zeroT Tryz.prog 134 = some [.v (.prim .nilFunc)] := by kernel_rfl
theorem con134 : concT Tryz.prog 134 = true := by kernel_rfl
-- 135: func(api.Value) bool
theorem lay135 : layT Tryz.prog 135 = some (false, 1) := by kernel_rfl
theorem zer135 : zeroT Tryz.prog 135 = some [.v (.prim .nilFunc)] := by kernel_rfl
theorem con135 : concT Tryz.prog 135 = true := by kernel_rfl
-- 136: func(api.Term, api.Term) api.Term
theorem lay136 : layT Tryz.prog 136 = some (false, 1) := by kernel_rfl
theorem zer136 : zeroT Tryz.prog 136 = some [.v (.prim .nilFunc)] := by kernel_rfl
theorem con136 : concT Tryz.prog 136 = true := by kernel_rfl
-- 137: func(api.Term, int) api.Term
theorem lay137 : layT Tryz.prog 137 = some (false, 1) := by kernel_rfl
theorem zer137 : zeroT Tryz.prog 137 = some [.v (.prim .nilFunc)] := by kernel_rfl
theorem con137 : concT Tryz.prog 137 = true := by kernel_rfl
-- 138: []machine.thing
theorem lay138 : layT Tryz.prog 138 = some (false, 1) := by kernel_rfl
theorem zer138 : zeroT Tryz.prog 138 = some [.own 0 []] := by kernel_rfl
theorem ele138 : elemT Tryz.prog 138 = some 1 := by kernel_rfl
theorem elz138 : elemZ Tryz.prog 138 = some (1, 16) := by kernel_rfl
theorem con138 : concT Tryz.prog 138 = true := by kernel_rfl
-- 139: machine.thing
theorem lay139 : layT Tryz.prog 139 = some (false, 1) := by kernel_rfl
theorem zer139 : zeroT Tryz.prog 139 = some [.v (.prim .nilIface)] := by kernel_rfl
-- 140: func(api.Value) machine.thing
theorem lay140 : layT Tryz.prog 140 = some (false, 1) := by kernel_rfl
theorem zer140 : zeroT Tryz.prog 140 = some [.v (.prim .nilFunc)] := by kernel_rfl
theorem con140 : concT Tryz.prog 140 = true := by kernel_rfl
-- 141: *machine.machine
theorem lay141 : layT Tryz.prog 141 = some (false, 1) := by kernel_rfl
theorem zer141 : zeroT Tryz.prog 141 = some [.v (.prim (.pointer none))] := by kernel_rfl
theorem con141 : concT Tryz.prog 141 = true := by kernel_rfl
-- 142: struct { work int; limit int }
theorem lay142 : layT Tryz.prog 142 = some (true, 2) := by kernel_rfl
theorem zer142 : zeroT Tryz.prog 142 = some [.v (.prim (.int .i64 (0))), .v (.prim (.int .i64 (0)))] := by kernel_rfl
theorem pla142 : placesT Tryz.prog 142 = some [(0, 1), (1, 1)] := by kernel_rfl
theorem con142 : concT Tryz.prog 142 = true := by kernel_rfl
theorem fld142_0 : fieldT Tryz.prog 142 0 = some (false, 0, 1) := by kernel_rfl
theorem fld142_1 : fieldT Tryz.prog 142 1 = some (false, 1, 1) := by kernel_rfl
-- 143: machine.machine
theorem lay143 : layT Tryz.prog 143 = some (true, 2) := by kernel_rfl
theorem zer143 : zeroT Tryz.prog 143 = some [.v (.prim (.int .i64 (0))), .v (.prim (.int .i64 (0)))] := by kernel_rfl
theorem pla143 : placesT Tryz.prog 143 = some [(0, 1), (1, 1)] := by kernel_rfl
theorem con143 : concT Tryz.prog 143 = true := by kernel_rfl
theorem fld143_0 : fieldT Tryz.prog 143 0 = some (false, 0, 1) := by kernel_rfl
theorem fld143_1 : fieldT Tryz.prog 143 1 = some (false, 1, 1) := by kernel_rfl
-- 144: (machine.thing, bool)
theorem lay144 : layT Tryz.prog 144 = some (false, 1) := by kernel_rfl
theorem con144 : concT Tryz.prog 144 = true := by kernel_rfl
-- 145: func(api.Term, *machine.env) (machine.thing, bool)
theorem lay145 : layT Tryz.prog 145 = some (false, 1) := by kernel_rfl
theorem zer145 : zeroT Tryz.prog 145 = some [.v (.prim .nilFunc)] := by kernel_rfl
theorem con145 : concT Tryz.prog 145 = true := by kernel_rfl
-- 146: func(machine.thing, ...machine.thing) (machine.thing, bool)
theorem lay146 : layT Tryz.prog 146 = some (false, 1) := by kernel_rfl
theorem zer146 : zeroT Tryz.prog 146 = some [.v (.prim .nilFunc)] := by kernel_rfl
theorem con146 : concT Tryz.prog 146 = true := by kernel_rfl
-- 147: func(machine.thing) api.Value
theorem lay147 : layT Tryz.prog 147 = some (false, 1) := by kernel_rfl
theorem zer147 : zeroT Tryz.prog 147 = some [.v (.prim .nilFunc)] := by kernel_rfl
theorem con147 : concT Tryz.prog 147 = true := by kernel_rfl
-- 148: func(api.Term) (int, bool)
theorem lay148 : layT Tryz.prog 148 = some (false, 1) := by kernel_rfl
theorem zer148 : zeroT Tryz.prog 148 = some [.v (.prim .nilFunc)] := by kernel_rfl
theorem con148 : concT Tryz.prog 148 = true := by kernel_rfl
-- 149: func(int, api.Type, ...api.Term) (api.Term, api.Errno)
theorem lay149 : layT Tryz.prog 149 = some (false, 1) := by kernel_rfl
theorem zer149 : zeroT Tryz.prog 149 = some [.v (.prim .nilFunc)] := by kernel_rfl
theorem con149 : concT Tryz.prog 149 = true := by kernel_rfl
-- 150: func(api.Type) (int, bool)
theorem lay150 : layT Tryz.prog 150 = some (false, 1) := by kernel_rfl
theorem zer150 : zeroT Tryz.prog 150 = some [.v (.prim .nilFunc)] := by kernel_rfl
theorem con150 : concT Tryz.prog 150 = true := by kernel_rfl
-- 151: func(int) bool
theorem lay151 : layT Tryz.prog 151 = some (false, 1) := by kernel_rfl
theorem zer151 : zeroT Tryz.prog 151 = some [.v (.prim .nilFunc)] := by kernel_rfl
theorem con151 : concT Tryz.prog 151 = true := by kernel_rfl
-- 152: func([]int, func(int) bool) bool
theorem lay152 : layT Tryz.prog 152 = some (false, 1) := by kernel_rfl
theorem zer152 : zeroT Tryz.prog 152 = some [.v (.prim .nilFunc)] := by kernel_rfl
theorem con152 : concT Tryz.prog 152 = true := by kernel_rfl
-- 153: func(api.Term, int, int) (api.Term, api.Errno)
theorem lay153 : layT Tryz.prog 153 = some (false, 1) := by kernel_rfl
theorem zer153 : zeroT Tryz.prog 153 = some [.v (.prim .nilFunc)] := by kernel_rfl
theorem con153 : concT Tryz.prog 153 = true := by kernel_rfl
-- 154: struct { api.Type; nodes int }
theorem lay154 : layT Tryz.prog 154 = some (true, 3) := by kernel_rfl
theorem zer154 : zeroT Tryz.prog 154 = some [.v (.prim (.int .i64 (0))), .own 0 [], .v (.prim (.int .i64 (0)))] := by kernel_rfl
theorem pla154 : placesT Tryz.prog 154 = some [(0, 2), (2, 1)] := by kernel_rfl
theorem con154 : concT Tryz.prog 154 = true := by kernel_rfl
theorem fld154_0 : fieldT Tryz.prog 154 0 = some (true, 0, 2) := by kernel_rfl
theorem fld154_1 : fieldT Tryz.prog 154 1 = some (false, 2, 1) := by kernel_rfl
-- 155: typing.Sized
theorem lay155 : layT Tryz.prog 155 = some (true, 3) := by kernel_rfl
theorem zer155 : zeroT Tryz.prog 155 = some [.v (.prim (.int .i64 (0))), .own 0 [], .v (.prim (.int .i64 (0)))] := by kernel_rfl
theorem pla155 : placesT Tryz.prog 155 = some [(0, 2), (2, 1)] := by kernel_rfl
theorem con155 : concT Tryz.prog 155 = true := by kernel_rfl
theorem fld155_0 : fieldT Tryz.prog 155 0 = some (true, 0, 2) := by kernel_rfl
theorem fld155_1 : fieldT Tryz.prog 155 1 = some (false, 2, 1) := by kernel_rfl
-- 156: (typing.Sized, api.Errno)
theorem lay156 : layT Tryz.prog 156 = some (false, 1) := by kernel_rfl
theorem con156 : concT Tryz.prog 156 = true := by kernel_rfl
-- 157: []typing.Sized
theorem lay157 : layT Tryz.prog 157 = some (false, 1) := by kernel_rfl
theorem zer157 : zeroT Tryz.prog 157 = some [.own 0 []] := by kernel_rfl
theorem ele157 : elemT Tryz.prog 157 = some 3 := by kernel_rfl
theorem elz157 : elemZ Tryz.prog 157 = some (3, 40) := by kernel_rfl
theorem con157 : concT Tryz.prog 157 = true := by kernel_rfl
-- 158: typing.Context
theorem lay158 : layT Tryz.prog 158 = some (false, 1) := by kernel_rfl
theorem zer158 : zeroT Tryz.prog 158 = some [.own 0 []] := by kernel_rfl
theorem ele158 : elemT Tryz.prog 158 = some 3 := by kernel_rfl
theorem elz158 : elemZ Tryz.prog 158 = some (3, 40) := by kernel_rfl
theorem con158 : concT Tryz.prog 158 = true := by kernel_rfl
-- 159: func([]api.Type) typing.Context
theorem lay159 : layT Tryz.prog 159 = some (false, 1) := by kernel_rfl
theorem zer159 : zeroT Tryz.prog 159 = some [.v (.prim .nilFunc)] := by kernel_rfl
theorem con159 : concT Tryz.prog 159 = true := by kernel_rfl
-- 160: func(api.Term) (typing.Sized, api.Errno)
theorem lay160 : layT Tryz.prog 160 = some (false, 1) := by kernel_rfl
theorem zer160 : zeroT Tryz.prog 160 = some [.v (.prim .nilFunc)] := by kernel_rfl
theorem con160 : concT Tryz.prog 160 = true := by kernel_rfl
-- 161: *machine.cell
theorem lay161 : layT Tryz.prog 161 = some (false, 1) := by kernel_rfl
theorem zer161 : zeroT Tryz.prog 161 = some [.v (.prim (.pointer none))] := by kernel_rfl
theorem con161 : concT Tryz.prog 161 = true := by kernel_rfl
-- 162: func(func(int, int) bool)
theorem lay162 : layT Tryz.prog 162 = some (false, 1) := by kernel_rfl
theorem zer162 : zeroT Tryz.prog 162 = some [.v (.prim .nilFunc)] := by kernel_rfl
theorem con162 : concT Tryz.prog 162 = true := by kernel_rfl
-- 163: iter.Seq2[int,int]
theorem lay163 : layT Tryz.prog 163 = some (false, 1) := by kernel_rfl
theorem zer163 : zeroT Tryz.prog 163 = some [.v (.prim .nilFunc)] := by kernel_rfl
theorem con163 : concT Tryz.prog 163 = true := by kernel_rfl
-- 164: func([]int) iter.Seq2[int,int]
theorem lay164 : layT Tryz.prog 164 = some (false, 1) := by kernel_rfl
theorem zer164 : zeroT Tryz.prog 164 = some [.v (.prim .nilFunc)] := by kernel_rfl
theorem con164 : concT Tryz.prog 164 = true := by kernel_rfl
-- 165: struct { head int; tail *machine.cell }
theorem lay165 : layT Tryz.prog 165 = some (true, 2) := by kernel_rfl
theorem zer165 : zeroT Tryz.prog 165 = some [.v (.prim (.int .i64 (0))), .v (.prim (.pointer none))] := by kernel_rfl
theorem pla165 : placesT Tryz.prog 165 = some [(0, 1), (1, 1)] := by kernel_rfl
theorem con165 : concT Tryz.prog 165 = true := by kernel_rfl
theorem fld165_0 : fieldT Tryz.prog 165 0 = some (false, 0, 1) := by kernel_rfl
theorem fld165_1 : fieldT Tryz.prog 165 1 = some (false, 1, 1) := by kernel_rfl
-- 166: machine.cell
theorem lay166 : layT Tryz.prog 166 = some (true, 2) := by kernel_rfl
theorem zer166 : zeroT Tryz.prog 166 = some [.v (.prim (.int .i64 (0))), .v (.prim (.pointer none))] := by kernel_rfl
theorem pla166 : placesT Tryz.prog 166 = some [(0, 1), (1, 1)] := by kernel_rfl
theorem con166 : concT Tryz.prog 166 = true := by kernel_rfl
theorem fld166_0 : fieldT Tryz.prog 166 0 = some (false, 0, 1) := by kernel_rfl
theorem fld166_1 : fieldT Tryz.prog 166 1 = some (false, 1, 1) := by kernel_rfl
-- 167: *machine.both
theorem lay167 : layT Tryz.prog 167 = some (false, 1) := by kernel_rfl
theorem zer167 : zeroT Tryz.prog 167 = some [.v (.prim (.pointer none))] := by kernel_rfl
theorem con167 : concT Tryz.prog 167 = true := by kernel_rfl
-- 168: struct { first machine.thing; second machine.thing }
theorem lay168 : layT Tryz.prog 168 = some (true, 2) := by kernel_rfl
theorem zer168 : zeroT Tryz.prog 168 = some [.v (.prim .nilIface), .v (.prim .nilIface)] := by kernel_rfl
theorem pla168 : placesT Tryz.prog 168 = some [(0, 1), (1, 1)] := by kernel_rfl
theorem con168 : concT Tryz.prog 168 = true := by kernel_rfl
theorem fld168_0 : fieldT Tryz.prog 168 0 = some (false, 0, 1) := by kernel_rfl
theorem fld168_1 : fieldT Tryz.prog 168 1 = some (false, 1, 1) := by kernel_rfl
-- 169: machine.both
theorem lay169 : layT Tryz.prog 169 = some (true, 2) := by kernel_rfl
theorem zer169 : zeroT Tryz.prog 169 = some [.v (.prim .nilIface), .v (.prim .nilIface)] := by kernel_rfl
theorem pla169 : placesT Tryz.prog 169 = some [(0, 1), (1, 1)] := by kernel_rfl
theorem con169 : concT Tryz.prog 169 = true := by kernel_rfl
theorem fld169_0 : fieldT Tryz.prog 169 0 = some (false, 0, 1) := by kernel_rfl
theorem fld169_1 : fieldT Tryz.prog 169 1 = some (false, 1, 1) := by kernel_rfl
-- 170: struct {}
theorem lay170 : layT Tryz.prog 170 = some (true, 0) := by kernel_rfl
theorem zer170 : zeroT Tryz.prog 170 = some [] := by kernel_rfl
theorem pla170 : placesT Tryz.prog 170 = some [] := by kernel_rfl
theorem con170 : concT Tryz.prog 170 = true := by kernel_rfl
-- 171: machine.unit
theorem lay171 : layT Tryz.prog 171 = some (true, 0) := by kernel_rfl
theorem zer171 : zeroT Tryz.prog 171 = some [] := by kernel_rfl
theorem pla171 : placesT Tryz.prog 171 = some [] := by kernel_rfl
theorem con171 : concT Tryz.prog 171 = true := by kernel_rfl
-- 172: func(func(api.Type) bool)
theorem lay172 : layT Tryz.prog 172 = some (false, 1) := by kernel_rfl
theorem zer172 : zeroT Tryz.prog 172 = some [.v (.prim .nilFunc)] := by kernel_rfl
theorem con172 : concT Tryz.prog 172 = true := by kernel_rfl
-- 173: iter.Seq[proofprograms/api.Type]
theorem lay173 : layT Tryz.prog 173 = some (false, 1) := by kernel_rfl
theorem zer173 : zeroT Tryz.prog 173 = some [.v (.prim .nilFunc)] := by kernel_rfl
theorem con173 : concT Tryz.prog 173 = true := by kernel_rfl
-- 174: func(api.Type) iter.Seq[proofprograms/api.Type]
theorem lay174 : layT Tryz.prog 174 = some (false, 1) := by kernel_rfl
theorem zer174 : zeroT Tryz.prog 174 = some [.v (.prim .nilFunc)] := by kernel_rfl
theorem con174 : concT Tryz.prog 174 = true := by kernel_rfl
-- 175: *machine.env
theorem lay175 : layT Tryz.prog 175 = some (false, 1) := by kernel_rfl
theorem zer175 : zeroT Tryz.prog 175 = some [.v (.prim (.pointer none))] := by kernel_rfl
theorem con175 : concT Tryz.prog 175 = true := by kernel_rfl
-- 176: func(int) machine.thing
theorem lay176 : layT Tryz.prog 176 = some (false, 1) := by kernel_rfl
theorem zer176 : zeroT Tryz.prog 176 = some [.v (.prim .nilFunc)] := by kernel_rfl
theorem con176 : concT Tryz.prog 176 = true := by kernel_rfl
-- 177: *machine.closure
theorem lay177 : layT Tryz.prog 177 = some (false, 1) := by kernel_rfl
theorem zer177 : zeroT Tryz.prog 177 = some [.v (.prim (.pointer none))] := by kernel_rfl
theorem con177 : concT Tryz.prog 177 = true := by kernel_rfl
-- 178: struct { body api.Term; env *machine.env }
theorem lay178 : layT Tryz.prog 178 = some (true, 6) := by kernel_rfl
theorem zer178 : zeroT Tryz.prog 178 = some [.v (.prim (.int .i64 (0))), .v (.prim (.int .i64 (0))), .v (.prim (.int .i64 (0))), .own 0 [], .own 0 [], .v (.prim (.pointer none))] := by kernel_rfl
theorem pla178 : placesT Tryz.prog 178 = some [(0, 5), (5, 1)] := by kernel_rfl
theorem con178 : concT Tryz.prog 178 = true := by kernel_rfl
theorem fld178_0 : fieldT Tryz.prog 178 0 = some (true, 0, 5) := by kernel_rfl
theorem fld178_1 : fieldT Tryz.prog 178 1 = some (false, 5, 1) := by kernel_rfl
-- 179: machine.closure
theorem lay179 : layT Tryz.prog 179 = some (true, 6) := by kernel_rfl
theorem zer179 : zeroT Tryz.prog 179 = some [.v (.prim (.int .i64 (0))), .v (.prim (.int .i64 (0))), .v (.prim (.int .i64 (0))), .own 0 [], .own 0 [], .v (.prim (.pointer none))] := by kernel_rfl
theorem pla179 : placesT Tryz.prog 179 = some [(0, 5), (5, 1)] := by kernel_rfl
theorem con179 : concT Tryz.prog 179 = true := by kernel_rfl
theorem fld179_0 : fieldT Tryz.prog 179 0 = some (true, 0, 5) := by kernel_rfl
theorem fld179_1 : fieldT Tryz.prog 179 1 = some (false, 5, 1) := by kernel_rfl
-- 180: [3]machine.thing
theorem lay180 : layT Tryz.prog 180 = some (true, 3) := by kernel_rfl
theorem zer180 : zeroT Tryz.prog 180 = some [.v (.prim .nilIface), .v (.prim .nilIface), .v (.prim .nilIface)] := by kernel_rfl
theorem eln180 : elemT Tryz.prog 180 = none := by kernel_rfl
theorem arr180 : arrT Tryz.prog 180 = some (3, 1) := by kernel_rfl
theorem pla180 : placesT Tryz.prog 180 = some [(0, 1), (1, 1), (2, 1)] := by kernel_rfl
theorem con180 : concT Tryz.prog 180 = true := by kernel_rfl
-- 181: ([3]machine.thing, bool)
theorem lay181 : layT Tryz.prog 181 = some (false, 1) := by kernel_rfl
theorem con181 : concT Tryz.prog 181 = true := by kernel_rfl
-- 182: func([]api.Term, *machine.env) ([3]machine.thing, bool)
theorem lay182 : layT Tryz.prog 182 = some (false, 1) := by kernel_rfl
theorem zer182 : zeroT Tryz.prog 182 = some [.v (.prim .nilFunc)] := by kernel_rfl
theorem con182 : concT Tryz.prog 182 = true := by kernel_rfl
-- 183: func([3]machine.thing) (machine.thing, bool)
theorem lay183 : layT Tryz.prog 183 = some (false, 1) := by kernel_rfl
theorem zer183 : zeroT Tryz.prog 183 = some [.v (.prim .nilFunc)] := by kernel_rfl
theorem con183 : concT Tryz.prog 183 = true := by kernel_rfl
-- 184: struct { value machine.thing; next *machine.env }
theorem lay184 : layT Tryz.prog 184 = some (true, 2) := by kernel_rfl
theorem zer184 : zeroT Tryz.prog 184 = some [.v (.prim .nilIface), .v (.prim (.pointer none))] := by kernel_rfl
theorem pla184 : placesT Tryz.prog 184 = some [(0, 1), (1, 1)] := by kernel_rfl
theorem con184 : concT Tryz.prog 184 = true := by kernel_rfl
theorem fld184_0 : fieldT Tryz.prog 184 0 = some (false, 0, 1) := by kernel_rfl
theorem fld184_1 : fieldT Tryz.prog 184 1 = some (false, 1, 1) := by kernel_rfl
-- 185: machine.env
theorem lay185 : layT Tryz.prog 185 = some (true, 2) := by kernel_rfl
theorem zer185 : zeroT Tryz.prog 185 = some [.v (.prim .nilIface), .v (.prim (.pointer none))] := by kernel_rfl
theorem pla185 : placesT Tryz.prog 185 = some [(0, 1), (1, 1)] := by kernel_rfl
theorem con185 : concT Tryz.prog 185 = true := by kernel_rfl
theorem fld185_0 : fieldT Tryz.prog 185 0 = some (false, 0, 1) := by kernel_rfl
theorem fld185_1 : fieldT Tryz.prog 185 1 = some (false, 1, 1) := by kernel_rfl
-- 186: func(int) (int, bool)
theorem lay186 : layT Tryz.prog 186 = some (false, 1) := by kernel_rfl
theorem zer186 : zeroT Tryz.prog 186 = some [.v (.prim .nilFunc)] := by kernel_rfl
theorem con186 : concT Tryz.prog 186 = true := by kernel_rfl
-- 187: func([]int, func(int) bool) int
theorem lay187 : layT Tryz.prog 187 = some (false, 1) := by kernel_rfl
theorem zer187 : zeroT Tryz.prog 187 = some [.v (.prim .nilFunc)] := by kernel_rfl
theorem con187 : concT Tryz.prog 187 = true := by kernel_rfl
-- 188: func(api.Type) typing.Sized
theorem lay188 : layT Tryz.prog 188 = some (false, 1) := by kernel_rfl
theorem zer188 : zeroT Tryz.prog 188 = some [.v (.prim .nilFunc)] := by kernel_rfl
theorem con188 : concT Tryz.prog 188 = true := by kernel_rfl
-- 189: func(int, typing.Sized, typing.Sized) (typing.Sized, api.Errno)
theorem lay189 : layT Tryz.prog 189 = some (false, 1) := by kernel_rfl
theorem zer189 : zeroT Tryz.prog 189 = some [.v (.prim .nilFunc)] := by kernel_rfl
theorem con189 : concT Tryz.prog 189 = true := by kernel_rfl
-- 190: [3]typing.Sized
theorem lay190 : layT Tryz.prog 190 = some (true, 9) := by kernel_rfl
theorem zer190 : zeroT Tryz.prog 190 = some [.v (.prim (.int .i64 (0))), .own 0 [], .v (.prim (.int .i64 (0))), .v (.prim (.int .i64 (0))), .own 0 [], .v (.prim (.int .i64 (0))), .v (.prim (.int .i64 (0))), .own 0 [], .v (.prim (.int .i64 (0)))] := by kernel_rfl
theorem eln190 : elemT Tryz.prog 190 = none := by kernel_rfl
theorem arr190 : arrT Tryz.prog 190 = some (3, 3) := by kernel_rfl
theorem pla190 : placesT Tryz.prog 190 = some [(0, 3), (3, 3), (6, 3)] := by kernel_rfl
theorem con190 : concT Tryz.prog 190 = true := by kernel_rfl
-- 191: func(api.Term, [3]typing.Sized) (typing.Sized, api.Errno)
theorem lay191 : layT Tryz.prog 191 = some (false, 1) := by kernel_rfl
theorem zer191 : zeroT Tryz.prog 191 = some [.v (.prim .nilFunc)] := by kernel_rfl
theorem con191 : concT Tryz.prog 191 = true := by kernel_rfl
-- 192: func(int, int) bool
theorem lay192 : layT Tryz.prog 192 = some (false, 1) := by kernel_rfl
theorem zer192 : zeroT Tryz.prog 192 = some [.v (.prim .nilFunc)] := by kernel_rfl
theorem con192 : concT Tryz.prog 192 = true := by kernel_rfl
-- 193: []*machine.cell
theorem lay193 : layT Tryz.prog 193 = some (false, 1) := by kernel_rfl
theorem zer193 : zeroT Tryz.prog 193 = some [.own 0 []] := by kernel_rfl
theorem ele193 : elemT Tryz.prog 193 = some 1 := by kernel_rfl
theorem elz193 : elemZ Tryz.prog 193 = some (1, 8) := by kernel_rfl
theorem con193 : concT Tryz.prog 193 = true := by kernel_rfl
-- 194: func(func(int, *machine.cell) bool)
theorem lay194 : layT Tryz.prog 194 = some (false, 1) := by kernel_rfl
theorem zer194 : zeroT Tryz.prog 194 = some [.v (.prim .nilFunc)] := by kernel_rfl
theorem con194 : concT Tryz.prog 194 = true := by kernel_rfl
-- 195: iter.Seq2[int,*proofprograms/machine.cell]
theorem lay195 : layT Tryz.prog 195 = some (false, 1) := by kernel_rfl
theorem zer195 : zeroT Tryz.prog 195 = some [.v (.prim .nilFunc)] := by kernel_rfl
theorem con195 : concT Tryz.prog 195 = true := by kernel_rfl
-- 196: func([]*machine.cell) iter.Seq2[int,*proofprograms/machine.cell]
theorem lay196 : layT Tryz.prog 196 = some (false, 1) := by kernel_rfl
theorem zer196 : zeroT Tryz.prog 196 = some [.v (.prim .nilFunc)] := by kernel_rfl
theorem con196 : concT Tryz.prog 196 = true := by kernel_rfl
-- 197: [14]int
theorem lay197 : layT Tryz.prog 197 = some (true, 14) := by kernel_rfl
theorem zer197 : zeroT Tryz.prog 197 = some [.v (.prim (.int .i64 (0))), .v (.prim (.int .i64 (0))), .v (.prim (.int .i64 (0))), .v (.prim (.int .i64 (0))), .v (.prim (.int .i64 (0))), .v (.prim (.int .i64 (0))), .v (.prim (.int .i64 (0))), .v (.prim (.int .i64 (0))), .v (.prim (.int .i64 (0))), .v (.prim (.int .i64 (0))), .v (.prim (.int .i64 (0))), .v (.prim (.int .i64 (0))), .v (.prim (.int .i64 (0))), .v (.prim (.int .i64 (0)))] := by kernel_rfl
theorem eln197 : elemT Tryz.prog 197 = none := by kernel_rfl
theorem arr197 : arrT Tryz.prog 197 = some (14, 1) := by kernel_rfl
theorem pla197 : placesT Tryz.prog 197 = some [(0, 1), (1, 1), (2, 1), (3, 1), (4, 1), (5, 1), (6, 1), (7, 1), (8, 1), (9, 1), (10, 1), (11, 1), (12, 1), (13, 1)] := by kernel_rfl
theorem con197 : concT Tryz.prog 197 = true := by kernel_rfl
-- 198: func(api.Term, ...api.Type) api.Term
theorem lay198 : layT Tryz.prog 198 = some (false, 1) := by kernel_rfl
theorem zer198 : zeroT Tryz.prog 198 = some [.v (.prim .nilFunc)] := by kernel_rfl
theorem con198 : concT Tryz.prog 198 = true := by kernel_rfl
-- 199: func(int, api.Type, api.Term, api.Term, api.Term) api.Term
theorem lay199 : layT Tryz.prog 199 = some (false, 1) := by kernel_rfl
theorem zer199 : zeroT Tryz.prog 199 = some [.v (.prim .nilFunc)] := by kernel_rfl
theorem con199 : concT Tryz.prog 199 = true := by kernel_rfl
-- 200: func(int) []int
theorem lay200 : layT Tryz.prog 200 = some (false, 1) := by kernel_rfl
theorem zer200 : zeroT Tryz.prog 200 = some [.v (.prim .nilFunc)] := by kernel_rfl
theorem con200 : concT Tryz.prog 200 = true := by kernel_rfl
-- 201: func(int) typing.Sized
theorem lay201 : layT Tryz.prog 201 = some (false, 1) := by kernel_rfl
theorem zer201 : zeroT Tryz.prog 201 = some [.v (.prim .nilFunc)] := by kernel_rfl
theorem con201 : concT Tryz.prog 201 = true := by kernel_rfl
-- 202: func(typing.Sized) bool
theorem lay202 : layT Tryz.prog 202 = some (false, 1) := by kernel_rfl
theorem zer202 : zeroT Tryz.prog 202 = some [.v (.prim .nilFunc)] := by kernel_rfl
theorem con202 : concT Tryz.prog 202 = true := by kernel_rfl
-- 203: func(api.Term) api.Type
theorem lay203 : layT Tryz.prog 203 = some (false, 1) := by kernel_rfl
theorem zer203 : zeroT Tryz.prog 203 = some [.v (.prim .nilFunc)] := by kernel_rfl
theorem con203 : concT Tryz.prog 203 = true := by kernel_rfl
-- 204: func(int, *machine.cell) bool
theorem lay204 : layT Tryz.prog 204 = some (false, 1) := by kernel_rfl
theorem zer204 : zeroT Tryz.prog 204 = some [.v (.prim .nilFunc)] := by kernel_rfl
theorem con204 : concT Tryz.prog 204 = true := by kernel_rfl
-- 205: func(api.Type, ...api.Type) api.Type
theorem lay205 : layT Tryz.prog 205 = some (false, 1) := by kernel_rfl
theorem zer205 : zeroT Tryz.prog 205 = some [.v (.prim .nilFunc)] := by kernel_rfl
theorem con205 : concT Tryz.prog 205 = true := by kernel_rfl
-- 206: func() string
theorem lay206 : layT Tryz.prog 206 = some (false, 1) := by kernel_rfl
theorem zer206 : zeroT Tryz.prog 206 = some [.v (.prim .nilFunc)] := by kernel_rfl
theorem con206 : concT Tryz.prog 206 = true := by kernel_rfl
-- 207: struct { _interface *abi.Type; concrete *abi.Type; asserted *abi.Type; missingMethod string }
theorem lay207 : layT Tryz.prog 207 = some (true, 4) := by kernel_rfl
theorem zer207 : zeroT Tryz.prog 207 = some [.v (.prim (.pointer none)), .v (.prim (.pointer none)), .v (.prim (.pointer none)), .v (.prim (.string ByteArray.empty))] := by kernel_rfl
theorem pla207 : placesT Tryz.prog 207 = some [(0, 1), (1, 1), (2, 1), (3, 1)] := by kernel_rfl
theorem con207 : concT Tryz.prog 207 = true := by kernel_rfl
theorem fld207_0 : fieldT Tryz.prog 207 0 = some (false, 0, 1) := by kernel_rfl
theorem fld207_1 : fieldT Tryz.prog 207 1 = some (false, 1, 1) := by kernel_rfl
theorem fld207_2 : fieldT Tryz.prog 207 2 = some (false, 2, 1) := by kernel_rfl
theorem fld207_3 : fieldT Tryz.prog 207 3 = some (false, 3, 1) := by kernel_rfl
-- 208: runtime.TypeAssertionError
theorem lay208 : layT Tryz.prog 208 = some (true, 4) := by kernel_rfl
theorem zer208 : zeroT Tryz.prog 208 = some [.v (.prim (.pointer none)), .v (.prim (.pointer none)), .v (.prim (.pointer none)), .v (.prim (.string ByteArray.empty))] := by kernel_rfl
theorem pla208 : placesT Tryz.prog 208 = some [(0, 1), (1, 1), (2, 1), (3, 1)] := by kernel_rfl
theorem con208 : concT Tryz.prog 208 = true := by kernel_rfl
theorem fld208_0 : fieldT Tryz.prog 208 0 = some (false, 0, 1) := by kernel_rfl
theorem fld208_1 : fieldT Tryz.prog 208 1 = some (false, 1, 1) := by kernel_rfl
theorem fld208_2 : fieldT Tryz.prog 208 2 = some (false, 2, 1) := by kernel_rfl
theorem fld208_3 : fieldT Tryz.prog 208 3 = some (false, 3, 1) := by kernel_rfl
-- 209: [0]*runtime.PanicNilError
theorem lay209 : layT Tryz.prog 209 = some (true, 0) := by kernel_rfl
theorem zer209 : zeroT Tryz.prog 209 = some [] := by kernel_rfl
theorem eln209 : elemT Tryz.prog 209 = none := by kernel_rfl
theorem arr209 : arrT Tryz.prog 209 = some (0, 1) := by kernel_rfl
theorem pla209 : placesT Tryz.prog 209 = some [] := by kernel_rfl
theorem con209 : concT Tryz.prog 209 = true := by kernel_rfl
-- 210: struct { _ [0]*runtime.PanicNilError }
theorem lay210 : layT Tryz.prog 210 = some (true, 0) := by kernel_rfl
theorem zer210 : zeroT Tryz.prog 210 = some [] := by kernel_rfl
theorem pla210 : placesT Tryz.prog 210 = some [(0, 0)] := by kernel_rfl
theorem con210 : concT Tryz.prog 210 = true := by kernel_rfl
-- 211: runtime.PanicNilError
theorem lay211 : layT Tryz.prog 211 = some (true, 0) := by kernel_rfl
theorem zer211 : zeroT Tryz.prog 211 = some [] := by kernel_rfl
theorem pla211 : placesT Tryz.prog 211 = some [(0, 0)] := by kernel_rfl
theorem con211 : concT Tryz.prog 211 = true := by kernel_rfl
-- 212: func() int
theorem lay212 : layT Tryz.prog 212 = some (false, 1) := by kernel_rfl
theorem zer212 : zeroT Tryz.prog 212 = some [.v (.prim .nilFunc)] := by kernel_rfl
theorem con212 : concT Tryz.prog 212 = true := by kernel_rfl
-- 213: uint32
theorem lay213 : layT Tryz.prog 213 = some (false, 1) := by kernel_rfl
theorem zer213 : zeroT Tryz.prog 213 = some [.v (.prim (.int .u32 (0)))] := by kernel_rfl
theorem con213 : concT Tryz.prog 213 = true := by kernel_rfl
theorem int213 : intT Tryz.prog 213 = some .u32 := by kernel_rfl
-- 214: abi.TFlag
theorem lay214 : layT Tryz.prog 214 = some (false, 1) := by kernel_rfl
theorem zer214 : zeroT Tryz.prog 214 = some [.v (.prim (.int .u8 (0)))] := by kernel_rfl
theorem con214 : concT Tryz.prog 214 = true := by kernel_rfl
theorem int214 : intT Tryz.prog 214 = some .u8 := by kernel_rfl
-- 215: abi.Kind
theorem lay215 : layT Tryz.prog 215 = some (false, 1) := by kernel_rfl
theorem zer215 : zeroT Tryz.prog 215 = some [.v (.prim (.int .u8 (0)))] := by kernel_rfl
theorem con215 : concT Tryz.prog 215 = true := by kernel_rfl
theorem int215 : intT Tryz.prog 215 = some .u8 := by kernel_rfl
-- 216: func(unsafe.Pointer, unsafe.Pointer) bool
theorem lay216 : layT Tryz.prog 216 = some (false, 1) := by kernel_rfl
theorem zer216 : zeroT Tryz.prog 216 = some [.v (.prim .nilFunc)] := by kernel_rfl
theorem con216 : concT Tryz.prog 216 = true := by kernel_rfl
-- 217: *uint8
theorem lay217 : layT Tryz.prog 217 = some (false, 1) := by kernel_rfl
theorem zer217 : zeroT Tryz.prog 217 = some [.v (.prim (.pointer none))] := by kernel_rfl
theorem con217 : concT Tryz.prog 217 = true := by kernel_rfl
-- 218: abi.NameOff
theorem lay218 : layT Tryz.prog 218 = some (false, 1) := by kernel_rfl
theorem zer218 : zeroT Tryz.prog 218 = some [.v (.prim (.int .i32 (0)))] := by kernel_rfl
theorem con218 : concT Tryz.prog 218 = true := by kernel_rfl
theorem int218 : intT Tryz.prog 218 = some .i32 := by kernel_rfl
-- 219: abi.TypeOff
theorem lay219 : layT Tryz.prog 219 = some (false, 1) := by kernel_rfl
theorem zer219 : zeroT Tryz.prog 219 = some [.v (.prim (.int .i32 (0)))] := by kernel_rfl
theorem con219 : concT Tryz.prog 219 = true := by kernel_rfl
theorem int219 : intT Tryz.prog 219 = some .i32 := by kernel_rfl
-- 220: struct { Size_ uintptr; PtrBytes uintptr; Hash uint32; TFlag abi.TFlag; Align_ uint8; FieldAlign_ uint8; Kind_ abi.Kind; Equal func(unsafe.Pointer, unsafe.Pointer) bool; GCData *uint8; Str abi.NameOff; PtrToThis abi.TypeOff }
theorem lay220 : layT Tryz.prog 220 = some (true, 11) := by kernel_rfl
theorem zer220 : zeroT Tryz.prog 220 = some [.v (.prim (.int .u64 (0))), .v (.prim (.int .u64 (0))), .v (.prim (.int .u32 (0))), .v (.prim (.int .u8 (0))), .v (.prim (.int .u8 (0))), .v (.prim (.int .u8 (0))), .v (.prim (.int .u8 (0))), .v (.prim .nilFunc), .v (.prim (.pointer none)), .v (.prim (.int .i32 (0))), .v (.prim (.int .i32 (0)))] := by kernel_rfl
theorem pla220 : placesT Tryz.prog 220 = some [(0, 1), (1, 1), (2, 1), (3, 1), (4, 1), (5, 1), (6, 1), (7, 1), (8, 1), (9, 1), (10, 1)] := by kernel_rfl
theorem con220 : concT Tryz.prog 220 = true := by kernel_rfl
theorem fld220_0 : fieldT Tryz.prog 220 0 = some (false, 0, 1) := by kernel_rfl
theorem fld220_1 : fieldT Tryz.prog 220 1 = some (false, 1, 1) := by kernel_rfl
theorem fld220_2 : fieldT Tryz.prog 220 2 = some (false, 2, 1) := by kernel_rfl
theorem fld220_3 : fieldT Tryz.prog 220 3 = some (false, 3, 1) := by kernel_rfl
theorem fld220_4 : fieldT Tryz.prog 220 4 = some (false, 4, 1) := by kernel_rfl
theorem fld220_5 : fieldT Tryz.prog 220 5 = some (false, 5, 1) := by kernel_rfl
theorem fld220_6 : fieldT Tryz.prog 220 6 = some (false, 6, 1) := by kernel_rfl
theorem fld220_7 : fieldT Tryz.prog 220 7 = some (false, 7, 1) := by kernel_rfl
theorem fld220_8 : fieldT Tryz.prog 220 8 = some (false, 8, 1) := by kernel_rfl
theorem fld220_9 : fieldT Tryz.prog 220 9 = some (false, 9, 1) := by kernel_rfl
theorem fld220_10 : fieldT Tryz.prog 220 10 = some (false, 10, 1) := by kernel_rfl
-- 221: abi.Type
theorem lay221 : layT Tryz.prog 221 = some (true, 11) := by kernel_rfl
theorem zer221 : zeroT Tryz.prog 221 = some [.v (.prim (.int .u64 (0))), .v (.prim (.int .u64 (0))), .v (.prim (.int .u32 (0))), .v (.prim (.int .u8 (0))), .v (.prim (.int .u8 (0))), .v (.prim (.int .u8 (0))), .v (.prim (.int .u8 (0))), .v (.prim .nilFunc), .v (.prim (.pointer none)), .v (.prim (.int .i32 (0))), .v (.prim (.int .i32 (0)))] := by kernel_rfl
theorem pla221 : placesT Tryz.prog 221 = some [(0, 1), (1, 1), (2, 1), (3, 1), (4, 1), (5, 1), (6, 1), (7, 1), (8, 1), (9, 1), (10, 1)] := by kernel_rfl
theorem con221 : concT Tryz.prog 221 = true := by kernel_rfl
theorem fld221_0 : fieldT Tryz.prog 221 0 = some (false, 0, 1) := by kernel_rfl
theorem fld221_1 : fieldT Tryz.prog 221 1 = some (false, 1, 1) := by kernel_rfl
theorem fld221_2 : fieldT Tryz.prog 221 2 = some (false, 2, 1) := by kernel_rfl
theorem fld221_3 : fieldT Tryz.prog 221 3 = some (false, 3, 1) := by kernel_rfl
theorem fld221_4 : fieldT Tryz.prog 221 4 = some (false, 4, 1) := by kernel_rfl
theorem fld221_5 : fieldT Tryz.prog 221 5 = some (false, 5, 1) := by kernel_rfl
theorem fld221_6 : fieldT Tryz.prog 221 6 = some (false, 6, 1) := by kernel_rfl
theorem fld221_7 : fieldT Tryz.prog 221 7 = some (false, 7, 1) := by kernel_rfl
theorem fld221_8 : fieldT Tryz.prog 221 8 = some (false, 8, 1) := by kernel_rfl
theorem fld221_9 : fieldT Tryz.prog 221 9 = some (false, 9, 1) := by kernel_rfl
theorem fld221_10 : fieldT Tryz.prog 221 10 = some (false, 10, 1) := by kernel_rfl
-- 222: func(api.Formula) api.Errno
theorem lay222 : layT Tryz.prog 222 = some (false, 1) := by kernel_rfl
theorem zer222 : zeroT Tryz.prog 222 = some [.v (.prim .nilFunc)] := by kernel_rfl
theorem con222 : concT Tryz.prog 222 = true := by kernel_rfl
-- 223: unsafe.Pointer
theorem lay223 : layT Tryz.prog 223 = some (false, 1) := by kernel_rfl
theorem zer223 : zeroT Tryz.prog 223 = some [.v (.prim (.pointer none))] := by kernel_rfl
theorem con223 : concT Tryz.prog 223 = true := by kernel_rfl
-- 224: []api.Formula
theorem lay224 : layT Tryz.prog 224 = some (false, 1) := by kernel_rfl
theorem zer224 : zeroT Tryz.prog 224 = some [.own 0 []] := by kernel_rfl
theorem ele224 : elemT Tryz.prog 224 = some 5 := by kernel_rfl
theorem elz224 : elemZ Tryz.prog 224 = some (5, 88) := by kernel_rfl
theorem con224 : concT Tryz.prog 224 = true := by kernel_rfl
-- 225: struct { Kind int; Type api.Type; Terms []api.Term; Args []api.Formula }
theorem lay225 : layT Tryz.prog 225 = some (true, 5) := by kernel_rfl
theorem zer225 : zeroT Tryz.prog 225 = some [.v (.prim (.int .i64 (0))), .v (.prim (.int .i64 (0))), .own 0 [], .own 0 [], .own 0 []] := by kernel_rfl
theorem pla225 : placesT Tryz.prog 225 = some [(0, 1), (1, 2), (3, 1), (4, 1)] := by kernel_rfl
theorem con225 : concT Tryz.prog 225 = true := by kernel_rfl
theorem fld225_0 : fieldT Tryz.prog 225 0 = some (false, 0, 1) := by kernel_rfl
theorem fld225_1 : fieldT Tryz.prog 225 1 = some (true, 1, 2) := by kernel_rfl
theorem fld225_2 : fieldT Tryz.prog 225 2 = some (false, 3, 1) := by kernel_rfl
theorem fld225_3 : fieldT Tryz.prog 225 3 = some (false, 4, 1) := by kernel_rfl
-- 226: api.Formula
theorem lay226 : layT Tryz.prog 226 = some (true, 5) := by kernel_rfl
theorem zer226 : zeroT Tryz.prog 226 = some [.v (.prim (.int .i64 (0))), .v (.prim (.int .i64 (0))), .own 0 [], .own 0 [], .own 0 []] := by kernel_rfl
theorem pla226 : placesT Tryz.prog 226 = some [(0, 1), (1, 2), (3, 1), (4, 1)] := by kernel_rfl
theorem con226 : concT Tryz.prog 226 = true := by kernel_rfl
theorem fld226_0 : fieldT Tryz.prog 226 0 = some (false, 0, 1) := by kernel_rfl
theorem fld226_1 : fieldT Tryz.prog 226 1 = some (true, 1, 2) := by kernel_rfl
theorem fld226_2 : fieldT Tryz.prog 226 2 = some (false, 3, 1) := by kernel_rfl
theorem fld226_3 : fieldT Tryz.prog 226 3 = some (false, 4, 1) := by kernel_rfl

attribute [go_sem] lay0 con0 lay1 zer1 con1 lay2 zer2 con2 int2 lay3 zer3 con3 int3 lay4 zer4 boo4 con4 lay5 zer5 con5 int5 lay6 zer6 con6 int6 lay7 zer7 pla7 con7 fld7_0 fld7_1 fld7_2 fld7_3 lay8 zer8 pla8 con8 fld8_0 fld8_1 fld8_2 fld8_3 lay9 zer9 con9 lay10 zer10 con10 lay11 zer11 con11 lay12 zer12 con12 int12 lay13 zer13 pla13 con13 fld13_0 fld13_1 lay14 zer14 pla14 con14 fld14_0 fld14_1 lay15 zer15 con15 lay16 zer16 con16 lay17 zer17 con17 lay18 zer18 pla18 con18 fld18_0 lay19 zer19 pla19 con19 fld19_0 lay20 zer20 lay21 zer21 con21 int21 lay22 zer22 ele22 elz22 con22 lay23 zer23 con23 lay24 zer24 con24 lay25 zer25 con25 lay26 zer26 con26 lay27 zer27 ele27 elz27 con27 lay28 zer28 con28 lay29 zer29 pla29 con29 fld29_0 fld29_1 lay30 zer30 pla30 con30 fld30_0 fld30_1 lay31 zer31 con31 lay32 zer32 ele32 elz32 con32 lay33 zer33 pla33 con33 fld33_0 fld33_1 fld33_2 fld33_3 lay34 zer34 pla34 con34 fld34_0 fld34_1 fld34_2 fld34_3 lay35 zer35 con35 int35 lay36 con36 lay37 zer37 con37 lay38 zer38 con38 lay39 con39 lay40 zer40 con40 lay41 zer41 con41 lay42 zer42 con42 lay43 zer43 ele43 elz43 con43 lay44 con44 lay45 zer45 con45 lay46 zer46 pla46 con46 fld46_0 fld46_1 fld46_2 fld46_3 lay47 zer47 pla47 con47 fld47_0 fld47_1 fld47_2 fld47_3 lay48 con48 lay49 zer49 con49 lay50 con50 lay51 zer51 con51 lay52 zer52 con52 lay53 zer53 con53 lay54 zer54 con54 lay55 zer55 con55 lay56 zer56 con56 lay57 zer57 pla57 con57 fld57_0 lay58 zer58 pla58 con58 fld58_0 lay59 zer59 con59 lay60 zer60 con60 lay61 zer61 con61 lay62 zer62 con62 lay63 zer63 con63 lay64 zer64 con64 lay65 zer65 con65 lay66 zer66 con66 lay67 zer67 con67 lay68 zer68 con68 lay69 zer69 con69 lay70 zer70 con70 lay71 zer71 con71 lay72 zer72 con72 lay73 zer73 con73 lay74 zer74 con74 lay75 con75 lay76 zer76 con76 lay77 zer77 con77 lay78 zer78 pla78 con78 fld78_0 fld78_1 lay79 zer79 pla79 con79 fld79_0 fld79_1 lay80 zer80 con80 lay81 zer81 con81 lay82 zer82 con82 lay83 zer83 con83 lay84 zer84 con84 lay85 zer85 con85 lay86 zer86 con86 lay87 zer87 con87 lay88 zer88 con88 lay89 zer89 con89 lay90 zer90 con90 lay91 zer91 con91 lay92 zer92 con92 lay93 zer93 con93 lay94 con94 lay95 zer95 con95 lay96 zer96 con96 lay97 zer97 pla97 con97 fld97_0 fld97_1 fld97_2 lay98 zer98 pla98 con98 fld98_0 fld98_1 fld98_2 lay99 zer99 ele99 elz99 con99 lay100 zer100 pla100 con100 fld100_0 fld100_1 fld100_2 fld100_3 fld100_4 lay101 zer101 pla101 con101 fld101_0 fld101_1 fld101_2 fld101_3 fld101_4 lay102 zer102 con102 lay103 zer103 con103 lay104 zer104 con104 lay105 zer105 con105 lay106 zer106 con106 lay107 zer107 con107 lay108 zer108 con108 lay109 zer109 con109 lay110 zer110 con110 lay111 zer111 con111 lay112 zer112 con112 lay113 zer113 con113 lay114 zer114 con114 lay115 zer115 con115 lay116 zer116 con116 lay117 zer117 con117 lay118 zer118 con118 lay119 con119 lay120 zer120 con120 lay121 con121 lay122 zer122 con122 lay123 zer123 con123 lay124 con124 lay125 zer125 con125 lay126 zer126 pla126 con126 fld126_0 lay127 zer127 pla127 con127 fld127_0 lay128 zer128 con128 lay129 zer129 con129 lay130 zer130 con130 lay131 zer131 con131 lay132 zer132 con132 lay133 con133 lay134 zer134 con134 lay135 zer135 con135 lay136 zer136 con136 lay137 zer137 con137 lay138 zer138 ele138 elz138 con138 lay139 zer139 lay140 zer140 con140 lay141 zer141 con141 lay142 zer142 pla142 con142 fld142_0 fld142_1 lay143 zer143 pla143 con143 fld143_0 fld143_1 lay144 con144 lay145 zer145 con145 lay146 zer146 con146 lay147 zer147 con147 lay148 zer148 con148 lay149 zer149 con149 lay150 zer150 con150 lay151 zer151 con151 lay152 zer152 con152 lay153 zer153 con153 lay154 zer154 pla154 con154 fld154_0 fld154_1 lay155 zer155 pla155 con155 fld155_0 fld155_1 lay156 con156 lay157 zer157 ele157 elz157 con157 lay158 zer158 ele158 elz158 con158 lay159 zer159 con159 lay160 zer160 con160 lay161 zer161 con161 lay162 zer162 con162 lay163 zer163 con163 lay164 zer164 con164 lay165 zer165 pla165 con165 fld165_0 fld165_1 lay166 zer166 pla166 con166 fld166_0 fld166_1 lay167 zer167 con167 lay168 zer168 pla168 con168 fld168_0 fld168_1 lay169 zer169 pla169 con169 fld169_0 fld169_1 lay170 zer170 pla170 con170 lay171 zer171 pla171 con171 lay172 zer172 con172 lay173 zer173 con173 lay174 zer174 con174 lay175 zer175 con175 lay176 zer176 con176 lay177 zer177 con177 lay178 zer178 pla178 con178 fld178_0 fld178_1 lay179 zer179 pla179 con179 fld179_0 fld179_1 lay180 zer180 eln180 arr180 pla180 con180 lay181 con181 lay182 zer182 con182 lay183 zer183 con183 lay184 zer184 pla184 con184 fld184_0 fld184_1 lay185 zer185 pla185 con185 fld185_0 fld185_1 lay186 zer186 con186 lay187 zer187 con187 lay188 zer188 con188 lay189 zer189 con189 lay190 zer190 eln190 arr190 pla190 con190 lay191 zer191 con191 lay192 zer192 con192 lay193 zer193 ele193 elz193 con193 lay194 zer194 con194 lay195 zer195 con195 lay196 zer196 con196 lay197 zer197 eln197 arr197 pla197 con197 lay198 zer198 con198 lay199 zer199 con199 lay200 zer200 con200 lay201 zer201 con201 lay202 zer202 con202 lay203 zer203 con203 lay204 zer204 con204 lay205 zer205 con205 lay206 zer206 con206 lay207 zer207 pla207 con207 fld207_0 fld207_1 fld207_2 fld207_3 lay208 zer208 pla208 con208 fld208_0 fld208_1 fld208_2 fld208_3 lay209 zer209 eln209 arr209 pla209 con209 lay210 zer210 pla210 con210 lay211 zer211 pla211 con211 lay212 zer212 con212 lay213 zer213 con213 int213 lay214 zer214 con214 int214 lay215 zer215 con215 int215 lay216 zer216 con216 lay217 zer217 con217 lay218 zer218 con218 int218 lay219 zer219 con219 int219 lay220 zer220 pla220 con220 fld220_0 fld220_1 fld220_2 fld220_3 fld220_4 fld220_5 fld220_6 fld220_7 fld220_8 fld220_9 fld220_10 lay221 zer221 pla221 con221 fld221_0 fld221_1 fld221_2 fld221_3 fld221_4 fld221_5 fld221_6 fld221_7 fld221_8 fld221_9 fld221_10 lay222 zer222 con222 lay223 zer223 con223 lay224 zer224 ele224 elz224 con224 lay225 zer225 pla225 con225 fld225_0 fld225_1 fld225_2 fld225_3 lay226 zer226 pla226 con226 fld226_0 fld226_1 fld226_2 fld226_3
end Go.Proofs.YteoalfdaanlbjaaGreatDoor.Lift

namespace Go.Proofs.YteoalfdaanlbjaaGreatDoor.Lift
set_option linter.unusedSimpArgs false
set_option linter.unusedVariables false
set_option linter.unnecessarySimpa false
open Go
variable {gl : Globs}

theorem ref01_copy_ok (t : Ty) : Con1 Tryz.prog gl 117 [t.dv] [] t.dv [] := by
  induction t using Ty.ind with
  | h t ih =>
  refine t_in Tryz.func117 ?_
  intro X hP hgl hf hfn hn hR hids hfit
  have htf : t.fit := (Ty.dv_fit t).1 (hfit _ (by simp))
  have hlen : t.args.length ≤ 2147483648 := ((Ty.fit_eq t).1 htf).2.1
  refine t_rg0 ?_
  refine t_rg0 ?_
  refine t_rg0 ?_
  refine t_a ?_
  refine W_sub [(1003, 0)] ?_ ?_ ?_ (W_list t.args (fun done rest => [(.slot 2, .one (.loc 2 0)), (.loc 2, .row [.v (dint 0), .own 0 []]), (.slot 1, .one (.loc 1 0)), (.loc 1, .row [.v (dint t.kind), .v (.sl (t.args.map Ty.cells))]),
      (.slot 3, .one (.own 1003 (done.map Ty.cells))), (.tok 1003, .tk 2 done.length), (.slot 7, .one (.v (.sl (t.args.map Ty.cells)))), (.slot 8, .one (.v (dint t.args.length))), (.slot 9, .one (.v (dint done.length)))]) ?_ ?_)
  · simp [go_sem]
  · simp [go_sem]
  · simp [go_sem]
  · intro done x rest hL hg hnext
    have hlt : done.length < t.args.length := by rw [hL]; simp
    refine t_rg0 ?_
    refine t_yes ?_
    refine t_rg @hg ?_
    refine t_a ?_
    first | refine W_reg [] fun K hK => ?_ | refine W_regd (by rw [hP]; exact mixed) [] fun K hK => ?_
    refine t_s0 ?_
    refine t_c trivial (ih x (List.mem_of_getElem? hg)) ?_
    refine t_e ?_
    clear hK K
    refine t_rg0 ?_
    refine t_b ?_
    refine t_sub [(1003, 17)] trivial hnext
  · refine t_rg0 ?_
    refine t_no ?_
    refine t_rg0 ?_
    refine t_r ?_
    simp [go_sem, hP, hgl, hn] <;> (try omega)

theorem ref01_same_ok (a b : Ty) : Con1 Tryz.prog gl 19 [a.dv, b.dv] [] (dbool (a.same b)) [] := by
  induction a using Ty.ind generalizing b with
  | h a ih =>
  refine t_in Tryz.func19 ?_
  intro X hP hgl hf hfn hn hR hids hfit
  have hfa : a.fit := (Ty.dv_fit a).1 (hfit _ (by simp))
  have hfb : b.fit := (Ty.dv_fit b).1 (hfit _ (by simp))
  have hla : a.args.length ≤ 2147483648 := ((Ty.fit_eq a).1 hfa).2.1
  have hlb : b.args.length ≤ 2147483648 := ((Ty.fit_eq b).1 hfb).2.1
  refine t_rg0 ?_
  by_cases hk : a.kind = b.kind
  · refine t_rg @hk ?_
    by_cases hl : a.args.length = b.args.length
    · refine t_a ?_
      refine W_cond rfl ?_ ?_
      · intro h; simp [hl] at h
      intro _
      refine t_rg0 ?_
      refine t_a ?_
      refine W_sub [] ?_ ?_ ?_ (W_upto a.args.length (fun i => ∀ (j : Nat) (x y : Ty), j < i → a.args[j]? = some x → b.args[j]? = some y → x.same y = true)
        (fun i => [(.slot 2, .one (.loc 2 0)), (.loc 2, .row [.v (dint a.kind), .v (.sl (a.args.map Ty.cells))]), (.slot 3, .one (.loc 3 0)), (.loc 3, .row [.v (dint b.kind), .v (.sl (b.args.map Ty.cells))]), (.slot 22, .one (.v (dint a.args.length))), (.slot 23, .one (.v (dint i)))]) (by intro j x y h; omega) ?_ ?_)
      · simp [go_sem]
      · simp [go_sem, hk, hl]
      · simp [go_sem]
      · intro i hi hI hnext
        obtain ⟨x, hx⟩ : ∃ x, a.args[i]? = some x := ⟨_, List.getElem?_eq_getElem hi⟩
        obtain ⟨y, hy⟩ : ∃ y, b.args[i]? = some y := ⟨_, List.getElem?_eq_getElem (by omega)⟩
        refine t_rg0 ?_
        refine t_yes ?_
        refine t_rg0 ?_
        refine t_a ?_
        first | refine W_reg [] fun K hK => ?_ | refine W_regd (by rw [hP]; exact mixed) [] fun K hK => ?_
        refine t_s (j2 @hx @hy) ?_
        refine t_c trivial (ih x (List.mem_of_getElem? hx) y) ?_
        refine t_e ?_
        clear hK K
        by_cases hs : x.same y = true
        · refine t_a ?_
          refine W_cond rfl ?_ ?_
          · intro h; simp [hs] at h
          intro _
          refine t_rg0 ?_
          refine t_b ?_
          refine t_sub [] trivial (hnext ?_)
          intro j x' y' hj hx' hy'
          by_cases hji : j = i
          · subst hji; rw [hx] at hx'; rw [hy] at hy'; cases hx'; cases hy'; exact hs
          · exact hI j x' y' (by omega) hx' hy'
        · refine t_a ?_
          refine W_cond rfl ?_ ?_
          rotate_left
          · intro h; simp [hs] at h
          intro _
          refine t_rg0 ?_
          refine t_r ?_
          simp [go_sem, hP, hgl, hn] <;> (try omega)
          refine Bool.eq_false_iff.2 ?_
          intro h
          rw [Ty.same_eq, Bool.and_eq_true, Ty.sames_iff] at h
          exact hs (h.2.2 i x y hx hy)
      · intro hI
        refine t_rg0 ?_
        refine t_no ?_
        refine t_rg0 ?_
        refine t_r ?_
        simp [go_sem, hP, hgl, hn] <;> (try omega)
        rw [Ty.same_eq, Bool.and_eq_true, Ty.sames_iff]
        exact ⟨by simp [hk], hl, fun i x y hx hy => hI i x y (List.getElem?_eq_some_iff.1 hx).1 hx hy⟩
    · refine t_a ?_
      refine W_cond rfl ?_ ?_
      rotate_left
      · intro h; simp at h; omega
      intro _
      refine t_rg0 ?_
      refine t_r ?_
      simp [go_sem, hP, hgl, hn] <;> (try omega)
      refine Bool.eq_false_iff.2 ?_
      intro h
      rw [Ty.same_eq, Bool.and_eq_true, Ty.sames_iff] at h
      exact hl h.2.1
  · refine t_rg @hk ?_
    refine t_a ?_
    refine W_cond rfl ?_ ?_
    rotate_left
    · intro h; simp at h
    intro _
    refine t_rg0 ?_
    refine t_r ?_
    simp [go_sem, hP, hgl, hn] <;> (try omega)
    simp [Ty.same_eq, hk]

theorem ref01_nat_ok : Con1 Tryz.prog gl 57 [] [] (Ty.mk 1 []).dv [] := by
  refine t_in Tryz.func57 ?_
  intro X hP hgl hf hfn hn hR hids hfit
  refine t_rg0 ?_
  refine t_rg0 ?_
  refine t_r ?_
  simp [go_sem, hP, hgl, hn] <;> (try omega)
  all_goals exact t_f

theorem ref01_list_ok : Con1 Tryz.prog gl 58 [] [] (Ty.mk 2 []).dv [] := by
  refine t_in Tryz.func58 ?_
  intro X hP hgl hf hfn hn hR hids hfit
  refine t_rg0 ?_
  refine t_rg0 ?_
  refine t_r ?_
  simp [go_sem, hP, hgl, hn] <;> (try omega)
  all_goals exact t_f

theorem ref01_unit_ok : Con1 Tryz.prog gl 59 [] [] (Ty.mk 5 []).dv [] := by
  refine t_in Tryz.func59 ?_
  intro X hP hgl hf hfn hn hR hids hfit
  refine t_rg0 ?_
  refine t_rg0 ?_
  refine t_r ?_
  simp [go_sem, hP, hgl, hn] <;> (try omega)
  all_goals exact t_f

theorem ref01_two_ok (a b : Ty) : Con1 Tryz.prog gl 60 [a.dv, b.dv] [] (Ty.mk 3 [a, b]).dv [] := by
  refine t_in Tryz.func60 ?_
  intro X hP hgl hf hfn hn hR hids hfit
  refine t_rg0 ?_
  refine t_a ?_
  first | refine W_reg [] fun K hK => ?_ | refine W_regd (by rw [hP]; exact mixed) [] fun K hK => ?_
  refine t_s0 ?_
  refine t_c trivial (ref01_copy_ok a) ?_
  refine t_c trivial (ref01_copy_ok b) ?_
  refine t_e ?_
  clear hK K
  refine t_r ?_
  simp [go_sem, hP, hgl, hn] <;> (try omega)
  all_goals exact t_f
end Go.Proofs.YteoalfdaanlbjaaGreatDoor.Lift

namespace Go.Proofs.YteoalfdaanlbjaaGreatDoor.Lift
set_option linter.unusedSimpArgs false
set_option linter.unusedVariables false
set_option linter.unnecessarySimpa false
open Go
variable {gl : Globs}

theorem Tm.fit_len {t : Tm} (h : t.dv.fit) : t.args.length ≤ 2147483648 := ((Tm.fit_eq t).1 ((Tm.dv_fit t).1 h)).2.2.2.1
theorem sl_len {l : List (List DV)} (h : DV.fit (.sl l)) : l.length ≤ 2147483648 := by simp [DV.fit, BIG] at h; exact h.1

theorem ref02_copy_ok (t : Tm) : Con1 Tryz.prog gl 94 [t.dv] [] t.dv [] := by
  induction t using Tm.ind with
  | h t ih =>
  refine t_in Tryz.func94 ?_
  intro X hP hgl hf hfn hn hR hids hfit
  have hlen := Tm.fit_len (hfit t.dv (by simp))
  refine t_rg0 ?_
  refine t_rg0 ?_
  refine t_rg0 ?_
  refine t_a ?_
  refine t_sub [(1003, 0)] trivial (W_list (t.args) (fun done rest => [(.slot 9, .one (.v (dint done.length))), (.slot 8, .one (.v (dint t.args.length))), (.slot 7, .one (.v (.sl (t.args.map Tm.cells)))), (.slot 3, .one (.own 1003 (done.map Tm.cells))), (.tok 1003, .tk 5 done.length), (.loc 2, .row ([.v (dint 0), .v (dint 0), .v (dint 0), .own 0 [], .own 0 []])), (.slot 2, .one (.loc 2 0)), (.loc 1, .row ([.v (dint t.kind), .v (dint t.index), .v (dint t.type.kind), .v (.sl (t.type.args.map Ty.cells)), .v (.sl (t.args.map Tm.cells))])), (.slot 1, .one (.loc 1 0))]) ?_ ?_)
  · intro done x rest hL hg hnext
    have hlt : done.length < t.args.length := by rw [hL]; simp
    refine t_rg0 ?_
    refine t_yes ?_
    refine t_rg @hg ?_
    refine t_a ?_
    first | refine W_reg [] fun K hK => ?_ | refine W_regd (by rw [hP]; exact mixed) [] fun K hK => ?_
    refine t_s0 ?_
    refine t_c trivial (ih x (List.mem_of_getElem? hg)) ?_
    refine t_e ?_
    clear hK K
    refine t_rg0 ?_
    refine t_b ?_
    refine t_sub [(1003, 17)] trivial hnext
  · refine t_rg0 ?_
    refine t_no ?_
    refine t_a ?_
    first | refine W_reg [] fun K hK => ?_ | refine W_regd (by rw [hP]; exact mixed) [] fun K hK => ?_
    refine t_s0 ?_
    refine t_c trivial (ref01_copy_ok t.type) ?_
    refine t_e ?_
    clear hK K
    refine t_r ?_
    simp [go_sem, hP, hgl, hn] <;> (try omega)

/-- the number of nodes -/
def Tm.count : Tm → Nat
  | .mk _ _ _ l => 1 + counts l
where
  counts : List Tm → Nat
    | [] => 0
    | a :: r => a.count + counts r
theorem Tm.count_eq (t : Tm) : t.count = 1 + Tm.count.counts t.args := by cases t; rfl
theorem Tm.counts_append (l m : List Tm) : Tm.count.counts (l ++ m) = Tm.count.counts l + Tm.count.counts m := by
  induction l with
  | nil => simp [Tm.count.counts]
  | cons a r ih => simp [Tm.count.counts, ih]; omega

theorem ref02_count_ok (t : Tm) (hc : t.count ≤ 2147483648) : Con1 Tryz.prog gl 92 [t.dv] [] (dint t.count) [] := by
  induction t using Tm.ind with
  | h t ih =>
  refine t_in Tryz.func92 ?_
  intro X hP hgl hf hfn hn hR hids hfit
  have hlen := Tm.fit_len (hfit t.dv (by simp))
  rw [Tm.count_eq] at hc
  refine t_rg0 ?_
  refine t_rg0 ?_
  refine t_rg0 ?_
  refine t_a ?_
  refine W_sub [] (by simp [go_sem]) (by simp [go_sem, Tm.count.counts] <;> omega) (by simp [go_sem]) (W_list (t.args) (fun done rest => [(.slot 9, .one (.v (dint done.length))), (.slot 8, .one (.v (dint t.args.length))), (.slot 7, .one (.v (.sl (t.args.map Tm.cells)))), (.slot 3, .one (.v (dint (1 + Tm.count.counts done : Nat))))]) ?_ ?_)
  · intro done x rest hL hg hnext
    have hlt : done.length < t.args.length := by rw [hL]; simp
    have hcx : Tm.count.counts t.args = Tm.count.counts done + (x.count + Tm.count.counts rest) := by rw [hL, Tm.counts_append]; rfl
    refine t_rg0 ?_
    refine t_yes ?_
    refine t_rg @hg ?_
    refine t_a ?_
    first | refine W_reg [] fun K hK => ?_ | refine W_regd (by rw [hP]; exact mixed) [] fun K hK => ?_
    refine t_s0 ?_
    refine t_c trivial (ih x (List.mem_of_getElem? hg) (by omega)) ?_
    refine t_e ?_
    clear hK K
    refine t_rg0 ?_
    repeat (first | refine W_inBlock ?_ | refine W_skip ?_ | refine W_label ?_ | refine W_exit rfl ?_)
    refine W_sub [] (by simp [go_sem]) (by simp [go_sem, Tm.counts_append, Tm.count.counts] <;> omega) (by simp [go_sem]) hnext
  · refine t_rg0 ?_
    refine t_no ?_
    refine t_rg0 ?_
    refine t_r ?_
    simp [go_sem, hP, hgl, hn, Tm.count_eq] <;> (try omega)

theorem ref02_n_ok (k : Int) (l : List Tm) : Con1 Tryz.prog gl 69 [dint k, .sl (l.map Tm.cells)] [] (Tm.mk k 0 (Ty.mk 0 []) l).dv [] := by
  refine t_in Tryz.func69 ?_
  intro X hP hgl hf hfn hn hR hids hfit
  have hlen : l.length ≤ 2147483648 := by simpa using sl_len (hfit (.sl (l.map Tm.cells)) (by simp))
  refine t_rg0 ?_
  refine t_rg0 ?_
  refine t_rg0 ?_
  refine t_a ?_
  refine t_sub [(1005, 0)] trivial (W_list (l) (fun done rest => [(.slot 10, .one (.v (dint done.length))), (.slot 9, .one (.v (dint l.length))), (.slot 8, .one (.v (.sl (l.map Tm.cells)))), (.slot 5, .one (.own 1005 (done.map Tm.cells))), (.tok 1005, .tk 5 done.length), (.loc 4, .row ([.v (dint 0), .v (dint 0), .v (dint 0), .own 0 [], .own 0 []])), (.slot 4, .one (.loc 4 0)), (.slot 0, .one (.v (dint k)))]) ?_ ?_)
  · intro done x rest hL hg hnext
    have hlt : done.length < l.length := by rw [hL]; simp
    refine t_rg0 ?_
    refine t_yes ?_
    refine t_rg @hg ?_
    refine t_a ?_
    first | refine W_reg [] fun K hK => ?_ | refine W_regd (by rw [hP]; exact mixed) [] fun K hK => ?_
    refine t_s0 ?_
    refine t_c trivial (ref02_copy_ok x) ?_
    refine t_e ?_
    clear hK K
    refine t_rg0 ?_
    refine t_b ?_
    refine t_sub [(1005, 18)] trivial hnext
  · refine t_rg0 ?_
    refine t_no ?_
    refine t_rg0 ?_
    refine t_r ?_
    simp [go_sem, hP, hgl, hn] <;> (try omega)
    all_goals exact t_f

theorem ref02_same_ok (a b : Tm) : Con1 Tryz.prog gl 28 [a.dv, b.dv] [] (dbool (a.same b)) [] := by
  induction a using Tm.ind generalizing b with
  | h a ih =>
  refine t_in Tryz.func28 ?_
  intro X hP hgl hf hfn hn hR hids hfit
  have hla := Tm.fit_len (hfit a.dv (by simp))
  have hlb := Tm.fit_len (hfit b.dv (by simp))
  refine t_rg0 ?_
  by_cases hk : a.kind = b.kind
  · by_cases hi : a.index = b.index
    · refine t_a ?_
      first | refine W_reg [] fun K hK => ?_ | refine W_regd (by rw [hP]; exact mixed) [] fun K hK => ?_
      refine t_s (j2 @hk @hi) ?_
      refine t_c trivial (ref01_same_ok a.type b.type) ?_
      by_cases ht : a.type.same b.type = true
      · simp [go_sem, hP, hn, ht]
        refine t_e ?_
        clear hK K
        by_cases hl : a.args.length = b.args.length
        · refine t_a ?_
          refine W_cond rfl ?_ ?_
          · intro h; simp [hl] at h
          intro _
          refine t_rg0 ?_
          refine t_a ?_
          refine t_sub [] (j2 @hk (j2 @hi @hl)) (W_upto (a.args.length) (fun i => ∀ (j : Nat) (x y : Tm), j < i → a.args[j]? = some x → b.args[j]? = some y → x.same y = true) (fun i => [(.slot 38, .one (.v (dint i))), (.slot 37, .one (.v (dint a.args.length))), (.slot 3, .one (.loc 3 0)), (.loc 3, .row ([.v (dint b.kind), .v (dint b.index), .v (dint b.type.kind), .v (.sl (b.type.args.map Ty.cells)), .v (.sl (b.args.map Tm.cells))])), (.slot 2, .one (.loc 2 0)), (.loc 2, .row ([.v (dint a.kind), .v (dint a.index), .v (dint a.type.kind), .v (.sl (a.type.args.map Ty.cells)), .v (.sl (a.args.map Tm.cells))]))]) (by intro j x y h; omega) ?_ ?_)
          · intro i hlt hI hnext
            obtain ⟨x, hx⟩ : ∃ x, a.args[i]? = some x := ⟨_, List.getElem?_eq_getElem hlt⟩
            obtain ⟨y, hy⟩ : ∃ y, b.args[i]? = some y := ⟨_, List.getElem?_eq_getElem (by omega)⟩
            refine t_rg0 ?_
            refine t_yes ?_
            refine t_rg0 ?_
            refine t_a ?_
            first | refine W_reg [] fun K hK => ?_ | refine W_regd (by rw [hP]; exact mixed) [] fun K hK => ?_
            refine t_s (j2 @hx @hy) ?_
            refine t_c trivial (ih x (List.mem_of_getElem? hx) y) ?_
            refine t_e ?_
            clear hK K
            by_cases hs : x.same y = true
            · refine t_a ?_
              refine W_cond rfl ?_ ?_
              · intro h; simp [hs] at h
              intro _
              refine t_rg0 ?_
              refine t_b ?_
              refine t_sub [] trivial (hnext ?_)
              intro j x' y' hj hx' hy'
              by_cases hji : j = i
              · subst hji; rw [hx] at hx'; rw [hy] at hy'; cases hx'; cases hy'; exact hs
              · exact hI j x' y' (by omega) hx' hy'
            · refine t_a ?_
              refine W_cond rfl ?_ ?_
              rotate_left
              · intro h; simp [hs] at h
              intro _
              refine t_rg0 ?_
              refine t_r ?_
              simp [go_sem, hP, hgl, hn] <;> (try omega)
              refine Bool.eq_false_iff.2 ?_
              intro h
              rw [Tm.same_eq] at h
              simp only [Bool.and_eq_true, Tm.sames_iff] at h
              exact hs (h.2.2 i x y hx hy)
          · intro hI
            refine t_rg0 ?_
            refine t_no ?_
            refine t_rg0 ?_
            refine t_r ?_
            simp [go_sem, hP, hgl, hn] <;> (try omega)
            rw [Tm.same_eq]
            simp only [Bool.and_eq_true, Tm.sames_iff]
            exact ⟨⟨⟨by simp [hk], by simp [hi]⟩, ht⟩, hl, fun i x y hx hy => hI i x y (List.getElem?_eq_some_iff.1 hx).1 hx hy⟩
        · refine t_a ?_
          refine W_cond rfl ?_ ?_
          rotate_left
          · intro h; simp at h; omega
          intro _
          refine t_rg0 ?_
          refine t_r ?_
          simp [go_sem, hP, hgl, hn] <;> (try omega)
          refine Bool.eq_false_iff.2 ?_
          intro h
          rw [Tm.same_eq] at h
          simp only [Bool.and_eq_true, Tm.sames_iff] at h
          exact hl h.2.1
      · simp [go_sem, hP, hn, ht]
        refine t_e ?_
        clear hK K
        refine t_a ?_
        refine W_cond rfl ?_ ?_
        rotate_left
        · intro h; simp at h
        intro _
        refine t_rg0 ?_
        refine t_r ?_
        simp [go_sem, hP, hgl, hn] <;> (try omega)
        simp [Tm.same_eq, ht]
    · refine t_rg (j2 @hk @hi) ?_
      refine t_a ?_
      refine W_cond rfl ?_ ?_
      rotate_left
      · intro h; simp at h
      intro _
      refine t_rg0 ?_
      refine t_r ?_
      simp [go_sem, hP, hgl, hn] <;> (try omega)
      simp [Tm.same_eq, hi]
  · refine t_rg @hk ?_
    refine t_a ?_
    refine W_cond rfl ?_ ?_
    rotate_left
    · intro h; simp at h
    intro _
    refine t_rg0 ?_
    refine t_r ?_
    simp [go_sem, hP, hgl, hn] <;> (try omega)
    simp [Tm.same_eq, hk]
end Go.Proofs.YteoalfdaanlbjaaGreatDoor.Lift

/-
  Plain facts: forms and sizes of types and terms.
-/
namespace Go.Proofs.YteoalfdaanlbjaaGreatDoor.Lift
set_option linter.unusedSimpArgs false
set_option linter.unusedVariables false
set_option linter.unnecessarySimpa false
open Go

def tyKind (k : Int) (n : Nat) : Bool := (decide (k = 1 ∨ k = 2 ∨ k = 5) && n == 0) || (decide (k = 3 ∨ k = 4) && n == 2)

namespace Ty
set_option linter.unusedSimpArgs false
set_option linter.unusedVariables false
set_option linter.unnecessarySimpa false
def shape : Ty → Bool
  | .mk k a => tyKind k a.length && shapes a
where
  shapes : List Ty → Bool
    | [] => true
    | a :: r => a.shape && shapes r
theorem shape_eq (t : Ty) : t.shape = (tyKind t.kind t.args.length && shape.shapes t.args) := by cases t; rfl
theorem shapes_append (l m : List Ty) : shape.shapes (l ++ m) = (shape.shapes l && shape.shapes m) := by
  induction l with
  | nil => simp [shape.shapes]
  | cons a r ih => simp [shape.shapes, ih, Bool.and_assoc]
theorem shapes_iff (l : List Ty) : shape.shapes l = true ↔ ∀ a ∈ l, a.shape = true := by
  induction l with
  | nil => simp [shape.shapes]
  | cons a r ih => simp [shape.shapes, ih]
def count : Ty → Nat
  | .mk _ a => 1 + counts a
where
  counts : List Ty → Nat
    | [] => 0
    | a :: r => a.count + counts r
theorem count_eq (t : Ty) : t.count = 1 + count.counts t.args := by cases t; rfl
theorem counts_append (l m : List Ty) : count.counts (l ++ m) = count.counts l + count.counts m := by
  induction l with
  | nil => simp [count.counts]
  | cons a r ih => simp [count.counts, ih]; omega
theorem count_mem {l : List Ty} {a : Ty} (h : a ∈ l) : a.count ≤ count.counts l := by
  induction l with
  | nil => cases h
  | cons b r ih =>
    simp only [count.counts]
    rcases List.mem_cons.1 h with rfl | h
    · omega
    · have := ih h; omega
/-- the first error of a type -/
def checkN (t : Ty) : Int := if t.shape = true then if 64 < t.count then 4 else 0 else 2
def zero (t : Ty) : Bool := decide (t.kind = 0) && decide (t.args.length = 0)
end Ty

/-- how many parts a kind of terms has -/
def arityI (k : Int) : Int :=
  if k = 1 ∨ k = 4 ∨ k = 7 ∨ k = 13 then 0 else if k = 2 ∨ k = 5 ∨ k = 11 ∨ k = 12 then 1 else if k = 3 ∨ k = 8 ∨ k = 10 then 2 else if k = 6 ∨ k = 9 then 3 else -1

def tyOfKind (k : Int) (t : Ty) : Bool := if k = 2 ∨ k = 6 ∨ k = 9 then decide (t.checkN = 0) else t.zero

def tmKind (k i : Int) (t : Ty) (n : Nat) : Bool := decide ((n : Int) = arityI k) && decide (0 ≤ i) && (decide (k = 1) || decide (i = 0)) && tyOfKind k t

namespace Tm
set_option linter.unusedSimpArgs false
set_option linter.unusedVariables false
set_option linter.unnecessarySimpa false
def shape : Tm → Bool
  | .mk k i t a => tmKind k i t a.length && shapes a
where
  shapes : List Tm → Bool
    | [] => true
    | a :: r => a.shape && shapes r
theorem shape_eq (t : Tm) : t.shape = (tmKind t.kind t.index t.type t.args.length && shape.shapes t.args) := by cases t; rfl
theorem shapes_append (l m : List Tm) : shape.shapes (l ++ m) = (shape.shapes l && shape.shapes m) := by
  induction l with
  | nil => simp [shape.shapes]
  | cons a r ih => simp [shape.shapes, ih, Bool.and_assoc]
theorem shapes_iff (l : List Tm) : shape.shapes l = true ↔ ∀ a ∈ l, a.shape = true := by
  induction l with
  | nil => simp [shape.shapes]
  | cons a r ih => simp [shape.shapes, ih]
theorem count_mem {l : List Tm} {a : Tm} (h : a ∈ l) : a.count ≤ count.counts l := by
  induction l with
  | nil => cases h
  | cons b r ih =>
    simp only [count.counts]
    rcases List.mem_cons.1 h with rfl | h
    · omega
    · have := ih h; omega
theorem count_pos (t : Tm) : 1 ≤ t.count := by rw [count_eq]; omega
/-- all types of a term are small enough to be counted -/
def tys : Tm → Prop
  | .mk _ _ t a => t.count ≤ 1073741824 ∧ tyss a
where
  tyss : List Tm → Prop
    | [] => True
    | a :: r => a.tys ∧ tyss r
theorem tyss_iff (l : List Tm) : tys.tyss l ↔ ∀ a ∈ l, a.tys := by
  induction l with
  | nil => simp [tys.tyss]
  | cons a r ih => simp [tys.tyss, ih]
theorem tys_eq (t : Tm) : t.tys ↔ t.type.count ≤ 1073741824 ∧ ∀ a ∈ t.args, a.tys := by cases t; simp only [tys, tyss_iff, type, args]
/-- the first error of a term -/
def checkN (t : Tm) : Int := if t.shape = true then if 4096 < t.count then 4 else 0 else 2
end Tm
theorem Ty.fit_len {t : Ty} (h : t.dv.fit) : t.args.length ≤ 2147483648 := ((Ty.fit_eq t).1 ((Ty.dv_fit t).1 h)).2.1
end Go.Proofs.YteoalfdaanlbjaaGreatDoor.Lift

namespace Go.Proofs.YteoalfdaanlbjaaGreatDoor.Lift
set_option linter.unusedSimpArgs false
set_option linter.unusedVariables false
set_option linter.unnecessarySimpa false
open Go
variable {gl : Globs}

abbrev ptr (b : Nat) : DV := .prim (.pointer (some ⟨b, 0, none⟩))
/-- a deck of numbers, as an object's cells -/
abbrev deck (l : List Int) (p : Nat) : List DV := [.sl (ints l), dint p]

def modz (n k : Int) : Int := (n.tmod k + k).tmod k
theorem modz_bd (n k : Int) (h : 1 ≤ k) : 0 ≤ modz n k ∧ modz n k < k ∧ -k < n.tmod k ∧ n.tmod k < k := by
  have h1 : -k < n.tmod k := by
    have := Int.lt_tmod_of_pos n (show 0 < k by omega); omega
  have h2 : n.tmod k < k := Int.tmod_lt_of_pos n (by omega)
  refine ⟨?_, Int.tmod_lt_of_pos _ (by omega), h1, h2⟩
  exact Int.tmod_nonneg _ (by omega)

theorem mod_ok (n k : Int) (h1 : 1 ≤ k) (h2 : k ≤ 2147483648) : Con1 Tryz.prog gl 110 [dint n, dint k] [] (dint (modz n k)) [] := by
  refine t_in Tryz.func110 ?_
  intro X hP hgl hf hfn hn hR hids hfit
  have hb := modz_bd n k h1
  unfold modz at hb
  refine t_rg0 ?_
  refine t_a ?_
  first | refine W_reg [] fun K hK => ?_ | refine W_regd (by rw [hP]; exact mixed) [] fun K hK => ?_
  refine t_s0 ?_
  have hk0 : ¬ k = 0 := by omega
  refine ⟨⟨hk0, by omega⟩, ?_⟩
  refine ⟨by omega, ⟨hk0, by omega⟩, ?_⟩
  refine t_e ?_
  clear hK K
  refine t_r ?_
  simp [go_sem, hP, hgl, hn, modz] <;> (try omega)

theorem few_ok (l : List Int) : Con1 Tryz.prog gl 11 [.sl (ints l)] [] (dbool (decide (l.length ≤ 500))) [] := by
  refine t_in Tryz.func11 ?_
  intro X hP hgl hf hfn hn hR hids hfit
  refine t_rg0 ?_
  refine t_rg0 ?_
  refine t_r ?_
  simp [go_sem, hP, hgl, hn] <;> (try omega)

theorem new_ok (l : List Int) : Con Tryz.prog gl 12 [.sl (ints l)] [] fun r φ => ∃ b, r = ptr b ∧ φ = [(b, deck l 0)] := by
  refine t_in Tryz.func12 ?_
  intro X hP hgl hf hfn hn hR hids hfit
  refine t_rg0 ?_
  refine t_rg0 ?_
  refine W_expose 5 (by simp [go_sem]; rfl) ?_
  intro b hb
  simp [go_sem]
  refine W_retR hP hf hfn (ptr b) [(b, deck l 0)] (by simp [go_sem, hP, hgl, hn]) (by simp [go_sem]) (by simp) (by rw [hR.1]; exact ⟨b, rfl, rfl⟩) hR.2

/-- the next number below n -/
def nextD (l : List Int) (p : Nat) (n : Int) : Int × Nat :=
  if n < 1 then (0, p) else match l[p]? with
    | some x => (modz x n, p + 1)
    | none => (0, p)

theorem next_ok (b : Nat) (l : List Int) (p : Nat) (n : Int) (hn2 : n ≤ 2147483648) (hp : p ≤ 2147483648) :
    Con1 Tryz.prog gl 42 [ptr b, dint n] [(b, deck l p)] (dint (nextD l p n).1) [(b, deck l (nextD l p n).2)] := by
  refine t_in Tryz.func42 ?_
  intro X hP hgl hf hfn hn hR hids hfit
  refine t_rg0 ?_
  by_cases hlt : n < 1
  · refine t_rg @hlt ?_
    refine t_a ?_
    refine W_cond rfl ?_ ?_
    rotate_left
    · intro h; simp at h
    intro _
    refine t_rg0 ?_
    repeat (first | refine W_seq ?_ | refine W_skip ?_ | refine W_block ?_ | refine W_inBlock ?_ | refine W_label ?_ | refine W_exit rfl ?_)
    first | refine W_retR hP hf hfn _ ([(b, deck l p)]) (by first | (simp [go_sem, hP, hgl, hn, nextD, hlt]; done) | (simp [go_sem, hP, hgl, hn, nextD, hlt]; rfl)) (by simp [go_sem, hP, hgl, hn, nextD, hlt]) (by simp) ?_ hR.2 | refine W_endR hP hf hfn _ ([(b, deck l p)]) (by first | (simp [go_sem, hP, hgl, hn, nextD, hlt]; done) | (simp [go_sem, hP, hgl, hn, nextD, hlt]; rfl)) (by simp [go_sem, hP, hgl, hn, nextD, hlt]) (by simp) ?_ hR.2
    rw [hR.1]
    refine ⟨?_, by simp [nextD, hlt]⟩
    try simp [nextD, hlt]
    try all_goals (simp [Ty.dv, Ty.cells_eq, Ty.kind_mk, Ty.args_mk, Tm.dv, Tm.cells_eq, Tm.kind_mk, Tm.index_mk, Tm.type_mk, Tm.args_mk, Val.dv, Val.cells_eq, Val.kind_mk, Val.num_mk, Val.list_mk, Val.args_mk, ints])
  · by_cases hle : l.length ≤ p
    · refine t_rg (j2 @hlt @hle) ?_
      refine t_a ?_
      refine W_cond rfl ?_ ?_
      rotate_left
      · intro h; simp [hle] at h
      intro _
      refine t_rg0 ?_
      have hg : l[p]? = none := List.getElem?_eq_none hle
      repeat (first | refine W_seq ?_ | refine W_skip ?_ | refine W_block ?_ | refine W_inBlock ?_ | refine W_label ?_ | refine W_exit rfl ?_)
      first | refine W_retR hP hf hfn _ ([(b, deck l p)]) (by first | (simp [go_sem, hP, hgl, hn, nextD, hlt, hg]; done) | (simp [go_sem, hP, hgl, hn, nextD, hlt, hg]; rfl)) (by simp [go_sem, hP, hgl, hn, nextD, hlt, hg]) (by simp) ?_ hR.2 | refine W_endR hP hf hfn _ ([(b, deck l p)]) (by first | (simp [go_sem, hP, hgl, hn, nextD, hlt, hg]; done) | (simp [go_sem, hP, hgl, hn, nextD, hlt, hg]; rfl)) (by simp [go_sem, hP, hgl, hn, nextD, hlt, hg]) (by simp) ?_ hR.2
      rw [hR.1]
      refine ⟨?_, by simp [nextD, hlt, hg]⟩
      try simp [nextD, hlt, hg]
      try all_goals (simp [Ty.dv, Ty.cells_eq, Ty.kind_mk, Ty.args_mk, Tm.dv, Tm.cells_eq, Tm.kind_mk, Tm.index_mk, Tm.type_mk, Tm.args_mk, Val.dv, Val.cells_eq, Val.kind_mk, Val.num_mk, Val.list_mk, Val.args_mk, ints])
    · refine t_rg (j2 @hlt @hle) ?_
      refine t_a ?_
      refine W_cond rfl ?_ ?_
      · intro h; simp [hle] at h
      intro _
      obtain ⟨x, hx⟩ : ∃ x, l[p]? = some x := ⟨_, List.getElem?_eq_getElem (by omega)⟩
      have hg := ints_get hx
      refine t_rg @hg ?_
      refine t_rg0 ?_
      refine t_a ?_
      first | refine W_reg [] fun K hK => ?_ | refine W_regd (by rw [hP]; exact mixed) [] fun K hK => ?_
      refine t_s0 ?_
      refine t_c trivial (mod_ok x n (by omega) hn2) ?_
      refine t_e ?_
      clear hK K
      repeat (first | refine W_seq ?_ | refine W_skip ?_ | refine W_block ?_ | refine W_inBlock ?_ | refine W_label ?_ | refine W_exit rfl ?_)
      first | refine W_retR hP hf hfn _ ([(b, deck l (p + 1))]) (by first | (simp [go_sem, hP, hgl, hn, nextD, hlt, hx]; done) | (simp [go_sem, hP, hgl, hn, nextD, hlt, hx]; rfl)) (by simp [go_sem, hP, hgl, hn, nextD, hlt, hx]) (by simp) ?_ hR.2 | refine W_endR hP hf hfn _ ([(b, deck l (p + 1))]) (by first | (simp [go_sem, hP, hgl, hn, nextD, hlt, hx]; done) | (simp [go_sem, hP, hgl, hn, nextD, hlt, hx]; rfl)) (by simp [go_sem, hP, hgl, hn, nextD, hlt, hx]) (by simp) ?_ hR.2
      rw [hR.1]
      refine ⟨?_, by simp [nextD, hlt, hx]⟩
      try simp [nextD, hlt, hx]
      try all_goals (simp [Ty.dv, Ty.cells_eq, Ty.kind_mk, Ty.args_mk, Tm.dv, Tm.cells_eq, Tm.kind_mk, Tm.index_mk, Tm.type_mk, Tm.args_mk, Val.dv, Val.cells_eq, Val.kind_mk, Val.num_mk, Val.list_mk, Val.args_mk, ints])
end Go.Proofs.YteoalfdaanlbjaaGreatDoor.Lift

namespace Go.Proofs.YteoalfdaanlbjaaGreatDoor.Lift
set_option linter.unusedSimpArgs false
set_option linter.unusedVariables false
set_option linter.unnecessarySimpa false
open Go
variable {gl : Globs}

def wantI (k : Int) : Int := if k = 3 ∨ k = 4 then 2 else 0

theorem ref01_shape_ok (t : Ty) : Con1 Tryz.prog gl 138 [t.dv] [] (dbool t.shape) [] := by
  induction t using Ty.ind with
  | h t ih =>
  refine t_in Tryz.func138 ?_
  intro X hP hgl hf hfn hn hR hids hfit
  have hlen := Ty.fit_len (hfit t.dv (by simp))
  have hs := Ty.shape_eq t
  refine t_rg0 ?_
  refine t_rg0 ?_
  refine t_rg0 ?_
  repeat (first | refine W_seq ?_ | refine W_skip ?_ | refine W_inBlock ?_ | refine W_label ?_)
  refine W_cutP (t.kind = 1 ∨ t.kind = 2 ∨ t.kind = 5 ∨ t.kind = 3 ∨ t.kind = 4) [(.slot 3, .one (.v (dint (wantI t.kind)))), (.loc 1, .row ([.v (dint t.kind), .v (.sl (t.args.map Ty.cells))])), (.slot 1, .one (.loc 1 0))] ?_ ?_
  · intro hrest
    by_cases h1 : t.kind = 1
    · repeat (first | (refine W_sub [] (by simp [go_sem]) (by simp [go_sem, wantI, h1] <;> omega) (by simp [go_sem]) (hrest (by simp [h1]))) | refine W_seq ?_ | refine W_skip ?_ | refine W_block ?_ | refine W_inBlock ?_ | refine W_label ?_ | refine W_exit rfl ?_ | ((first | refine W_reg [] fun K hK => ?_ | refine W_regd (by rw [hP]; exact mixed) [] fun K hK => ?_); simp [go_sem, hP, hgl, hn, h1]; (repeat (refine ⟨by omega, ?_⟩)); (first | refine hK _ ?_ | refine ⟨by rfl, hK _ ?_⟩); clear hK K) | refine W_cond rfl (fun _ => ?_) (fun hq => False.elim (by first | (simp [h1]; done) | (simp [h1]; omega) | (simp [h1] at hq; done) | (simp [h1] at hq; omega))) | refine W_cond rfl (fun hq => False.elim (by first | (simp [h1]; done) | (simp [h1]; omega) | (simp [h1] at hq; done) | (simp [h1] at hq; omega))) (fun _ => ?_))
    by_cases h2 : t.kind = 2
    · repeat (first | (refine W_sub [] (by simp [go_sem]) (by simp [go_sem, wantI, h2] <;> omega) (by simp [go_sem]) (hrest (by simp [h2]))) | refine W_seq ?_ | refine W_skip ?_ | refine W_block ?_ | refine W_inBlock ?_ | refine W_label ?_ | refine W_exit rfl ?_ | ((first | refine W_reg [] fun K hK => ?_ | refine W_regd (by rw [hP]; exact mixed) [] fun K hK => ?_); simp [go_sem, hP, hgl, hn, h2]; (repeat (refine ⟨by omega, ?_⟩)); (first | refine hK _ ?_ | refine ⟨by rfl, hK _ ?_⟩); clear hK K) | refine W_cond rfl (fun _ => ?_) (fun hq => False.elim (by first | (simp [h2]; done) | (simp [h2]; omega) | (simp [h2] at hq; done) | (simp [h2] at hq; omega))) | refine W_cond rfl (fun hq => False.elim (by first | (simp [h2]; done) | (simp [h2]; omega) | (simp [h2] at hq; done) | (simp [h2] at hq; omega))) (fun _ => ?_))
    by_cases h3 : t.kind = 5
    · repeat (first | (refine W_sub [] (by simp [go_sem]) (by simp [go_sem, wantI, h3] <;> omega) (by simp [go_sem]) (hrest (by simp [h3]))) | refine W_seq ?_ | refine W_skip ?_ | refine W_block ?_ | refine W_inBlock ?_ | refine W_label ?_ | refine W_exit rfl ?_ | ((first | refine W_reg [] fun K hK => ?_ | refine W_regd (by rw [hP]; exact mixed) [] fun K hK => ?_); simp [go_sem, hP, hgl, hn, h3]; (repeat (refine ⟨by omega, ?_⟩)); (first | refine hK _ ?_ | refine ⟨by rfl, hK _ ?_⟩); clear hK K) | refine W_cond rfl (fun _ => ?_) (fun hq => False.elim (by first | (simp [h3]; done) | (simp [h3]; omega) | (simp [h3] at hq; done) | (simp [h3] at hq; omega))) | refine W_cond rfl (fun hq => False.elim (by first | (simp [h3]; done) | (simp [h3]; omega) | (simp [h3] at hq; done) | (simp [h3] at hq; omega))) (fun _ => ?_))
    by_cases h4 : t.kind = 3
    · repeat (first | (refine W_sub [] (by simp [go_sem]) (by simp [go_sem, wantI, h4] <;> omega) (by simp [go_sem]) (hrest (by simp [h4]))) | refine W_seq ?_ | refine W_skip ?_ | refine W_block ?_ | refine W_inBlock ?_ | refine W_label ?_ | refine W_exit rfl ?_ | ((first | refine W_reg [] fun K hK => ?_ | refine W_regd (by rw [hP]; exact mixed) [] fun K hK => ?_); simp [go_sem, hP, hgl, hn, h4]; (repeat (refine ⟨by omega, ?_⟩)); (first | refine hK _ ?_ | refine ⟨by rfl, hK _ ?_⟩); clear hK K) | refine W_cond rfl (fun _ => ?_) (fun hq => False.elim (by first | (simp [h4]; done) | (simp [h4]; omega) | (simp [h4] at hq; done) | (simp [h4] at hq; omega))) | refine W_cond rfl (fun hq => False.elim (by first | (simp [h4]; done) | (simp [h4]; omega) | (simp [h4] at hq; done) | (simp [h4] at hq; omega))) (fun _ => ?_))
    by_cases h5 : t.kind = 4
    · repeat (first | (refine W_sub [] (by simp [go_sem]) (by simp [go_sem, wantI, h5] <;> omega) (by simp [go_sem]) (hrest (by simp [h5]))) | refine W_seq ?_ | refine W_skip ?_ | refine W_block ?_ | refine W_inBlock ?_ | refine W_label ?_ | refine W_exit rfl ?_ | ((first | refine W_reg [] fun K hK => ?_ | refine W_regd (by rw [hP]; exact mixed) [] fun K hK => ?_); simp [go_sem, hP, hgl, hn, h5]; (repeat (refine ⟨by omega, ?_⟩)); (first | refine hK _ ?_ | refine ⟨by rfl, hK _ ?_⟩); clear hK K) | refine W_cond rfl (fun _ => ?_) (fun hq => False.elim (by first | (simp [h5]; done) | (simp [h5]; omega) | (simp [h5] at hq; done) | (simp [h5] at hq; omega))) | refine W_cond rfl (fun hq => False.elim (by first | (simp [h5]; done) | (simp [h5]; omega) | (simp [h5] at hq; done) | (simp [h5] at hq; omega))) (fun _ => ?_))
    refine t_g (j2 @h1 (j2 @h2 (j2 @h3 (j2 @h4 @h5)))) ?_
    refine t_r ?_
    simp [go_sem, hP, hgl, hn, hs, tyKind, h1, h2, h3, h4, h5] <;> (try omega)
  · intro hk
    by_cases hl : (t.args.length : Int) = wantI t.kind
    · have hty : tyKind t.kind t.args.length = true := by
        unfold wantI at hl
        unfold tyKind
        rcases hk with h | h | h | h | h <;> simp [h] at hl ⊢ <;> omega
      refine t_g @hl ?_
      refine t_a ?_
      refine W_sub [] (by simp [go_sem]) (by simp [go_sem, Ty.shape.shapes] <;> omega) (by simp [go_sem]) (W_listI (t.args) (fun done => Ty.shape.shapes done = true) (fun done rest => [(.slot 23, .one (.v (dint done.length))), (.slot 22, .one (.v (dint t.args.length))), (.slot 21, .one (.v (.sl (t.args.map Ty.cells))))]) (rfl) ?_ ?_)
      · intro done x rest hL hg hI hnext
        have hlt : done.length < t.args.length := by rw [hL]; simp
        refine t_rg0 ?_
        refine t_yes ?_
        refine t_rg @hg ?_
        refine t_c1 @hg (ih x (List.mem_of_getElem? hg)) ?_
        by_cases hx : x.shape = true
        · refine t_n @hx ?_
          refine t_gt (wr []) trivial @hx (hnext (by rw [Ty.shapes_append]; simp [hI, Ty.shape.shapes, hx]))
        · refine t_y @hx ?_
          refine t_g @hx ?_
          have : t.shape = false := by rw [hs, hL, Ty.shapes_append]; simp [Ty.shape.shapes, hx]
          refine t_r ?_
          simp [go_sem, hP, hgl, hn, this] <;> (try omega)
      · intro hI
        refine t_rg0 ?_
        refine t_no ?_
        refine t_g0 ?_
        refine t_r ?_
        simp [go_sem, hP, hgl, hn, hs, hty, hI] <;> (try omega)
    · have hty : tyKind t.kind t.args.length = false := by
        unfold wantI at hl
        unfold tyKind
        rcases hk with h | h | h | h | h <;> simp [h] at hl ⊢ <;> omega
      refine t_g @hl ?_
      refine t_r ?_
      simp [go_sem, hP, hgl, hn, hs, hty] <;> (try omega)

theorem ref01_size_ok (t : Ty) (hc : t.count ≤ 2147483648) : Con1 Tryz.prog gl 139 [t.dv] [] (dint t.count) [] := by
  induction t using Ty.ind with
  | h t ih =>
  refine t_in Tryz.func139 ?_
  intro X hP hgl hf hfn hn hR hids hfit
  have hlen := Ty.fit_len (hfit t.dv (by simp))
  rw [Ty.count_eq] at hc
  refine t_rg0 ?_
  refine t_rg0 ?_
  refine t_rg0 ?_
  refine t_a ?_
  refine W_sub [] (by simp [go_sem]) (by simp [go_sem, Ty.count.counts] <;> omega) (by simp [go_sem]) (W_list (t.args) (fun done rest => [(.slot 9, .one (.v (dint done.length))), (.slot 8, .one (.v (dint t.args.length))), (.slot 7, .one (.v (.sl (t.args.map Ty.cells)))), (.slot 3, .one (.v (dint (1 + Ty.count.counts done : Nat))))]) ?_ ?_)
  · intro done x rest hL hg hnext
    have hlt : done.length < t.args.length := by rw [hL]; simp
    have hcx : Ty.count.counts t.args = Ty.count.counts done + (x.count + Ty.count.counts rest) := by rw [hL, Ty.counts_append]; rfl
    rw [Ty.counts_append] at hnext
    refine t_rg0 ?_
    refine t_yes ?_
    refine t_rg @hg ?_
    refine t_a ?_
    first | refine W_reg [] fun K hK => ?_ | refine W_regd (by rw [hP]; exact mixed) [] fun K hK => ?_
    refine t_s0 ?_
    refine t_c trivial (ih x (List.mem_of_getElem? hg) (by omega)) ?_
    refine t_e ?_
    clear hK K
    refine t_rg0 ?_
    repeat (first | refine W_inBlock ?_ | refine W_skip ?_ | refine W_label ?_ | refine W_exit rfl ?_)
    refine W_sub [] (by simp [go_sem]) (by simp [go_sem, Ty.count.counts] <;> omega) (by simp [go_sem]) hnext
  · refine t_rg0 ?_
    refine t_no ?_
    refine t_rg0 ?_
    refine t_r ?_
    simp [go_sem, hP, hgl, hn, Ty.count_eq] <;> (try omega)

theorem ref01_zero_ok (t : Ty) : Con1 Tryz.prog gl 166 [t.dv] [] (dbool t.zero) [] := by
  refine t_in Tryz.func166 ?_
  intro X hP hgl hf hfn hn hR hids hfit
  refine t_rg0 ?_
  by_cases h : t.kind = 0
  · refine t_rg @h ?_
    refine t_r ?_
    simp [go_sem, hP, hgl, hn, Ty.zero, h] <;> (try omega)
  · refine t_rg @h ?_
    refine t_r ?_
    simp [go_sem, hP, hgl, hn, Ty.zero, h] <;> (try omega)

theorem ref01_check_ok (t : Ty) (hc : t.count ≤ 2147483648) : Con1 Tryz.prog gl 99 [t.dv] [] (dint t.checkN) [] := by
  refine t_in Tryz.func99 ?_
  intro X hP hgl hf hfn hn hR hids hfit
  refine t_rg0 ?_
  refine t_a ?_
  first | refine W_reg [] fun K hK => ?_ | refine W_regd (by rw [hP]; exact mixed) [] fun K hK => ?_
  refine t_s0 ?_
  refine t_c trivial (ref01_shape_ok t) ?_
  refine t_e ?_
  clear hK K
  by_cases h : t.shape = true
  · refine t_n @h ?_
    refine t_a ?_
    first | refine W_reg [] fun K hK => ?_ | refine W_regd (by rw [hP]; exact mixed) [] fun K hK => ?_
    refine t_s0 ?_
    refine t_c trivial (ref01_size_ok t hc) ?_
    refine t_e ?_
    clear hK K
    by_cases h2 : 64 < t.count
    · refine t_y @h2 ?_
      refine t_rg0 ?_
      refine t_r ?_
      simp [go_sem, hP, hgl, hn, Ty.checkN, h, h2] <;> (try omega)
    · refine t_n @h2 ?_
      refine t_rg0 ?_
      refine t_r ?_
      simp [go_sem, hP, hgl, hn, Ty.checkN, h, h2] <;> (try omega)
  · refine t_y @h ?_
    refine t_rg0 ?_
    refine t_r ?_
    simp [go_sem, hP, hgl, hn, Ty.checkN, h] <;> (try omega)
end Go.Proofs.YteoalfdaanlbjaaGreatDoor.Lift

namespace Go.Proofs.YteoalfdaanlbjaaGreatDoor.Lift
set_option linter.unusedSimpArgs false
set_option linter.unusedVariables false
set_option linter.unnecessarySimpa false
open Go
variable {gl : Globs}

/-- the first error of a list of types -/
def errTys : List Ty → Int
  | [] => 0
  | t :: r => if t.checkN = 0 then errTys r else t.checkN
def ctxN (l : List Ty) : Int := if 16 < l.length then 3 else errTys l
theorem errTys_append (l m : List Ty) (h : errTys l = 0) : errTys (l ++ m) = errTys m := by
  induction l with
  | nil => rfl
  | cons a r ih =>
    simp only [errTys] at h
    split at h
    · rename_i ha; simp only [List.cons_append, errTys, ha, if_true]; exact ih h
    · rename_i ha; exact absurd h ha

theorem ref01_context_ok (l : List Ty) (hc : ∀ t ∈ l, t.count ≤ 2147483648) : Con1 Tryz.prog gl 77 [.sl (l.map Ty.cells)] [] (dint (ctxN l)) [] := by
  refine t_in Tryz.func77 ?_
  intro X hP hgl hf hfn hn hR hids hfit
  have hlen := sl_len (hfit (.sl (l.map Ty.cells)) (by simp))
  simp only [List.length_map] at hlen
  by_cases h : 16 < l.length
  · refine t_g @h ?_
    refine t_r ?_
    simp [go_sem, hP, hgl, hn, ctxN, h] <;> (try omega)
  · refine t_g @h ?_
    refine t_a ?_
    refine t_sub [] trivial (W_listI (l) (fun done => errTys done = 0) (fun done rest => [(.slot 11, .one (.v (dint done.length))), (.slot 10, .one (.v (dint l.length))), (.slot 9, .one (.v (.sl (l.map Ty.cells))))]) (rfl) ?_ ?_)
    · intro done x rest hL hg hI hnext
      have hlt : done.length < l.length := by rw [hL]; simp
      have hx := errTys_append done (x :: rest) hI
      rw [← hL] at hx
      refine t_rg0 ?_
      refine t_yes ?_
      refine t_rg @hg ?_
      refine t_c1 @hg (ref01_check_ok x (hc x (List.mem_of_getElem? hg))) ?_
      by_cases hx0 : x.checkN = 0
      · refine t_gt (wr []) trivial @hx0 (hnext (by rw [errTys_append done [x] hI]; simp [errTys, hx0]))
      · refine t_g @hx0 ?_
        refine t_r ?_
        simp [go_sem, hP, hgl, hn, ctxN, h, hx, errTys, hx0] <;> (try omega)
    · intro hI
      refine t_rg0 ?_
      refine t_no ?_
      refine t_g0 ?_
      refine t_r ?_
      simp [go_sem, hP, hgl, hn, ctxN, h, hI] <;> (try omega)

theorem ref02_args_ok (k : Int) : Con1 Tryz.prog gl 165 [dint k] [] (dint (arityI k)) [] := by
  refine t_in Tryz.func165 ?_
  intro X hP hgl hf hfn hn hR hids hfit
  by_cases hs0 : k = 1
  · refine t_g @hs0 ?_
    refine t_r ?_
    simp [go_sem, hP, hgl, hn, arityI, hs0] <;> (try omega)
  by_cases hs1 : k = 4
  · refine t_g @hs1 ?_
    refine t_r ?_
    simp [go_sem, hP, hgl, hn, arityI, hs1] <;> (try omega)
  by_cases hs2 : k = 7
  · refine t_g @hs2 ?_
    refine t_r ?_
    simp [go_sem, hP, hgl, hn, arityI, hs2] <;> (try omega)
  by_cases hs3 : k = 13
  · refine t_g @hs3 ?_
    refine t_r ?_
    simp [go_sem, hP, hgl, hn, arityI, hs3] <;> (try omega)
  by_cases hs4 : k = 2
  · refine t_g @hs4 ?_
    refine t_r ?_
    simp [go_sem, hP, hgl, hn, arityI, hs4] <;> (try omega)
  by_cases hs5 : k = 5
  · refine t_g @hs5 ?_
    refine t_r ?_
    simp [go_sem, hP, hgl, hn, arityI, hs5] <;> (try omega)
  by_cases hs6 : k = 11
  · refine t_g @hs6 ?_
    refine t_r ?_
    simp [go_sem, hP, hgl, hn, arityI, hs6] <;> (try omega)
  by_cases hs7 : k = 12
  · refine t_g @hs7 ?_
    refine t_r ?_
    simp [go_sem, hP, hgl, hn, arityI, hs7] <;> (try omega)
  by_cases hs8 : k = 3
  · refine t_g @hs8 ?_
    refine t_r ?_
    simp [go_sem, hP, hgl, hn, arityI, hs8] <;> (try omega)
  by_cases hs9 : k = 8
  · refine t_g @hs9 ?_
    refine t_r ?_
    simp [go_sem, hP, hgl, hn, arityI, hs9] <;> (try omega)
  by_cases hs10 : k = 10
  · refine t_g @hs10 ?_
    refine t_r ?_
    simp [go_sem, hP, hgl, hn, arityI, hs10] <;> (try omega)
  by_cases hs11 : k = 6
  · refine t_g @hs11 ?_
    refine t_r ?_
    simp [go_sem, hP, hgl, hn, arityI, hs11] <;> (try omega)
  by_cases hs12 : k = 9
  · refine t_g @hs12 ?_
    refine t_r ?_
    simp [go_sem, hP, hgl, hn, arityI, hs12] <;> (try omega)
  refine t_g (j2 @hs0 (j2 @hs1 (j2 @hs2 (j2 @hs3 (j2 @hs4 (j2 @hs5 (j2 @hs6 (j2 @hs7 (j2 @hs8 (j2 @hs9 (j2 @hs10 (j2 @hs11 @hs12)))))))))))) ?_
  refine t_r ?_
  simp [go_sem, hP, hgl, hn, arityI, hs0, hs1, hs2, hs3, hs4, hs5, hs6, hs7, hs8, hs9, hs10, hs11, hs12] <;> (try omega)

def okNode (t : Tm) : Bool := decide ((t.args.length : Int) = arityI t.kind) && decide (0 ≤ t.index) && (decide (t.kind = 1) || decide (t.index = 0))

theorem ref02_shape_ok (t : Tm) (ht : t.tys) : Con1 Tryz.prog gl 135 [t.dv] [] (dbool t.shape) [] := by
  induction t using Tm.ind with
  | h t ih =>
  obtain ⟨ht1, ht2⟩ := (Tm.tys_eq t).1 ht
  refine t_in Tryz.func135 ?_
  intro X hP hgl hf hfn hn hR hids hfit
  have hlen := Tm.fit_len (hfit t.dv (by simp))
  have hs := Tm.shape_eq t
  refine t_rg0 ?_
  repeat (first | refine W_seq ?_ | refine W_skip ?_ | refine W_inBlock ?_ | refine W_label ?_)
  refine W_cut [(.slot 26, .one (.v (dbool (!okNode t)))), (.loc 1, .row ([.v (dint t.kind), .v (dint t.index), .v (dint t.type.kind), .v (.sl (t.type.args.map Ty.cells)), .v (.sl (t.args.map Tm.cells))])), (.slot 1, .one (.loc 1 0))] ?_ ?_
  · intro hrest
    by_cases hA : (t.args.length : Int) = arityI t.kind
    · by_cases hB : t.index < 0
      · refine t_c1 (j2 @hA @hB) (ref02_args_ok t.kind) ?_
        repeat (first | refine W_inBlock ?_ | refine W_skip ?_ | refine W_label ?_ | refine W_exit rfl ?_)
        refine W_sub [] (by simp [go_sem]) (by simp [go_sem, okNode, hA, hB] <;> omega) (by simp [go_sem]) hrest
      · by_cases hC : t.kind = 1
        · refine t_c1 (j2 @hA (j2 @hB @hC)) (ref02_args_ok t.kind) ?_
          repeat (first | refine W_inBlock ?_ | refine W_skip ?_ | refine W_label ?_ | refine W_exit rfl ?_)
          refine W_sub [] (by simp [go_sem]) (by simp [go_sem, okNode, hA, hB, hC] <;> omega) (by simp [go_sem]) hrest
        · by_cases hD : t.index = 0
          · refine t_c1 (j2 @hA (j2 @hB (j2 @hC @hD))) (ref02_args_ok t.kind) ?_
            repeat (first | refine W_inBlock ?_ | refine W_skip ?_ | refine W_label ?_ | refine W_exit rfl ?_)
            refine W_sub [] (by simp [go_sem]) (by simp [go_sem, okNode, hA, hB, hC, hD] <;> omega) (by simp [go_sem]) hrest
          · refine t_c1 (j2 @hA (j2 @hB (j2 @hC @hD))) (ref02_args_ok t.kind) ?_
            repeat (first | refine W_inBlock ?_ | refine W_skip ?_ | refine W_label ?_ | refine W_exit rfl ?_)
            refine W_sub [] (by simp [go_sem]) (by simp [go_sem, okNode, hA, hB, hC, hD] <;> omega) (by simp [go_sem]) hrest
    · refine t_c1 @hA (ref02_args_ok t.kind) ?_
      repeat (first | refine W_inBlock ?_ | refine W_skip ?_ | refine W_label ?_ | refine W_exit rfl ?_)
      refine W_sub [] (by simp [go_sem]) (by simp [go_sem, okNode, hA] <;> omega) (by simp [go_sem]) hrest
  · by_cases hok : okNode t = true
    · have hk : tmKind t.kind t.index t.type t.args.length = tyOfKind t.kind t.type := by
        simp only [okNode, Bool.and_eq_true, decide_eq_true_eq] at hok
        simp [tmKind, hok]
      refine t_n @hok ?_
      refine t_rg0 ?_
      repeat (first | refine W_seq ?_ | refine W_skip ?_ | refine W_inBlock ?_ | refine W_label ?_)
      refine W_cutP (tyOfKind t.kind t.type = true) [(.loc 1, .row ([.v (dint t.kind), .v (dint t.index), .v (dint t.type.kind), .v (.sl (t.type.args.map Ty.cells)), .v (.sl (t.args.map Tm.cells))])), (.slot 1, .one (.loc 1 0))] ?_ ?_
      · intro hrest
        by_cases k2 : t.kind = 2
        · refine t_g @k2 ?_
          refine t_c1 trivial (ref01_check_ok t.type (by omega)) ?_
          by_cases hc : t.type.checkN = 0
          · refine t_gt (wr []) @k2 (j2 @k2 @hc) (hrest (by simp [tyOfKind, k2, hc]))
          · have hz : tyOfKind t.kind t.type = false := by simp [tyOfKind, k2, hc]
            refine t_g @hc ?_
            refine t_r ?_
            simp [go_sem, hP, hgl, hn, hs, hk, hz] <;> (try omega)
        by_cases k6 : t.kind = 6
        · refine t_g @k6 ?_
          refine t_c1 trivial (ref01_check_ok t.type (by omega)) ?_
          by_cases hc : t.type.checkN = 0
          · refine t_gt (wr []) @k6 (j2 @k6 @hc) (hrest (by simp [tyOfKind, k6, hc]))
          · have hz : tyOfKind t.kind t.type = false := by simp [tyOfKind, k6, hc]
            refine t_g @hc ?_
            refine t_r ?_
            simp [go_sem, hP, hgl, hn, hs, hk, hz] <;> (try omega)
        by_cases k9 : t.kind = 9
        · refine t_g @k9 ?_
          refine t_c1 trivial (ref01_check_ok t.type (by omega)) ?_
          by_cases hc : t.type.checkN = 0
          · refine t_gt (wr []) @k9 (j2 @k9 @hc) (hrest (by simp [tyOfKind, k9, hc]))
          · have hz : tyOfKind t.kind t.type = false := by simp [tyOfKind, k9, hc]
            refine t_g @hc ?_
            refine t_r ?_
            simp [go_sem, hP, hgl, hn, hs, hk, hz] <;> (try omega)
        refine t_g (j2 @k2 (j2 @k6 @k9)) ?_
        refine t_c1 trivial (ref01_zero_ok t.type) ?_
        by_cases hc : t.type.zero = true
        · refine t_gt (wr []) trivial @hc (hrest (by simp [tyOfKind, k2, k6, k9, hc]))
        · have hz : tyOfKind t.kind t.type = false := by simp [tyOfKind, k2, k6, k9, hc]
          refine t_g @hc ?_
          refine t_r ?_
          simp [go_sem, hP, hgl, hn, hs, hk, hz] <;> (try omega)
      · intro hty
        refine t_g0 ?_
        refine t_a ?_
        refine W_sub [] (by simp [go_sem]) (by simp [go_sem, Tm.shape.shapes] <;> omega) (by simp [go_sem]) (W_listI (t.args) (fun done => Tm.shape.shapes done = true) (fun done rest => [(.slot 44, .one (.v (dint done.length))), (.slot 43, .one (.v (dint t.args.length))), (.slot 42, .one (.v (.sl (t.args.map Tm.cells))))]) (rfl) ?_ ?_)
        · intro done x rest hL hg hI hnext
          have hlt : done.length < t.args.length := by rw [hL]; simp
          refine t_rg0 ?_
          refine t_yes ?_
          refine t_rg @hg ?_
          refine t_c1 @hg (ih x (List.mem_of_getElem? hg) (ht2 x (List.mem_of_getElem? hg))) ?_
          by_cases hx : x.shape = true
          · refine t_gt (wr []) trivial @hx (hnext (by rw [Tm.shapes_append]; simp [hI, Tm.shape.shapes, hx]))
          · refine t_g @hx ?_
            have : t.shape = false := by rw [hs, hL, Tm.shapes_append]; simp [Tm.shape.shapes, hx]
            refine t_r ?_
            simp [go_sem, hP, hgl, hn, this] <;> (try omega)
        · intro hI
          refine t_rg0 ?_
          refine t_no ?_
          refine t_g0 ?_
          refine t_r ?_
          simp [go_sem, hP, hgl, hn, hs, hk, hty, hI] <;> (try omega)
    · have hk : tmKind t.kind t.index t.type t.args.length = false := by
        simp only [okNode, Bool.and_eq_true, decide_eq_true_eq] at hok
        simp only [tmKind]
        cases hh : (decide ((t.args.length : Int) = arityI t.kind) && decide (0 ≤ t.index) && (decide (t.kind = 1) || decide (t.index = 0))) with
        | true => exact absurd (by simpa using hh) hok
        | false => rfl
      refine t_g @hok ?_
      refine t_r ?_
      simp [go_sem, hP, hgl, hn, hs, hk] <;> (try omega)

theorem ref02_check_ok (t : Tm) (ht : t.tys) (hc : t.count ≤ 2147483648) : Con1 Tryz.prog gl 90 [t.dv] [] (dint t.checkN) [] := by
  refine t_in Tryz.func90 ?_
  intro X hP hgl hf hfn hn hR hids hfit
  refine t_g0 ?_
  refine t_c1 trivial (ref02_shape_ok t ht) ?_
  by_cases h : t.shape = true
  · refine t_g @h ?_
    refine t_c1 trivial (ref02_count_ok t hc) ?_
    by_cases h2 : 4096 < t.count
    · refine t_g @h2 ?_
      refine t_r ?_
      simp [go_sem, hP, hgl, hn, Tm.checkN, h, h2] <;> (try omega)
    · refine t_g @h2 ?_
      refine t_r ?_
      simp [go_sem, hP, hgl, hn, Tm.checkN, h, h2] <;> (try omega)
  · refine t_g @h ?_
    refine t_r ?_
    simp [go_sem, hP, hgl, hn, Tm.checkN, h] <;> (try omega)
end Go.Proofs.YteoalfdaanlbjaaGreatDoor.Lift

namespace Go.Proofs.YteoalfdaanlbjaaGreatDoor.Lift
set_option linter.unusedSimpArgs false
set_option linter.unusedVariables false
set_option linter.unnecessarySimpa false
open Go
variable {gl : Globs}

/-- the package's table of arities -/
def arEls : List (List DV) := ints [0, 0, 1, 2, 0, 1, 3, 0, 2, 3, 2, 1, 1, 0]
def known (k : Int) : Bool := decide (1 ≤ k) && decide (k ≤ 13)
theorem arityI_known (k : Int) : known k = decide (0 ≤ arityI k) := by
  unfold known arityI
  by_cases h : 1 ≤ k ∧ k ≤ 13
  · have : k = 1 ∨ k = 2 ∨ k = 3 ∨ k = 4 ∨ k = 5 ∨ k = 6 ∨ k = 7 ∨ k = 8 ∨ k = 9 ∨ k = 10 ∨ k = 11 ∨ k = 12 ∨ k = 13 := by omega
    rcases this with rfl | rfl | rfl | rfl | rfl | rfl | rfl | rfl | rfl | rfl | rfl | rfl | rfl <;> decide
  · rw [if_neg (by omega), if_neg (by omega), if_neg (by omega), if_neg (by omega)]
    simp; omega

theorem arity_ok (har : globOf gl 0 = some arEls) (k : Int) : Con1 Tryz.prog gl 182 [dint k] [] (.tup [dint (if known k = true then arityI k else 0), dbool (known k)]) [] := by
  refine t_in Tryz.func182 ?_
  intro X hP hgl hf hfn hn hR hids hfit
  have hk := har
  simp only [arEls, ints, List.map] at hk
  by_cases hs0 : k = 1
  · refine t_g (j2 @hs0 @hk) ?_
    refine t_r ?_
    simp [go_sem, hP, hgl, hn, known, arityI, hs0] <;> (try omega)
  by_cases hs1 : k = 2
  · refine t_g (j2 @hs1 @hk) ?_
    refine t_r ?_
    simp [go_sem, hP, hgl, hn, known, arityI, hs1] <;> (try omega)
  by_cases hs2 : k = 3
  · refine t_g (j2 @hs2 @hk) ?_
    refine t_r ?_
    simp [go_sem, hP, hgl, hn, known, arityI, hs2] <;> (try omega)
  by_cases hs3 : k = 4
  · refine t_g (j2 @hs3 @hk) ?_
    refine t_r ?_
    simp [go_sem, hP, hgl, hn, known, arityI, hs3] <;> (try omega)
  by_cases hs4 : k = 5
  · refine t_g (j2 @hs4 @hk) ?_
    refine t_r ?_
    simp [go_sem, hP, hgl, hn, known, arityI, hs4] <;> (try omega)
  by_cases hs5 : k = 6
  · refine t_g (j2 @hs5 @hk) ?_
    refine t_r ?_
    simp [go_sem, hP, hgl, hn, known, arityI, hs5] <;> (try omega)
  by_cases hs6 : k = 7
  · refine t_g (j2 @hs6 @hk) ?_
    refine t_r ?_
    simp [go_sem, hP, hgl, hn, known, arityI, hs6] <;> (try omega)
  by_cases hs7 : k = 8
  · refine t_g (j2 @hs7 @hk) ?_
    refine t_r ?_
    simp [go_sem, hP, hgl, hn, known, arityI, hs7] <;> (try omega)
  by_cases hs8 : k = 9
  · refine t_g (j2 @hs8 @hk) ?_
    refine t_r ?_
    simp [go_sem, hP, hgl, hn, known, arityI, hs8] <;> (try omega)
  by_cases hs9 : k = 10
  · refine t_g (j2 @hs9 @hk) ?_
    refine t_r ?_
    simp [go_sem, hP, hgl, hn, known, arityI, hs9] <;> (try omega)
  by_cases hs10 : k = 11
  · refine t_g (j2 @hs10 @hk) ?_
    refine t_r ?_
    simp [go_sem, hP, hgl, hn, known, arityI, hs10] <;> (try omega)
  by_cases hs11 : k = 12
  · refine t_g (j2 @hs11 @hk) ?_
    refine t_r ?_
    simp [go_sem, hP, hgl, hn, known, arityI, hs11] <;> (try omega)
  by_cases hs12 : k = 13
  · refine t_g (j2 @hs12 @hk) ?_
    refine t_r ?_
    simp [go_sem, hP, hgl, hn, known, arityI, hs12] <;> (try omega)
  by_cases hlo : k < 1
  · have : known k = false := by simp [known]; omega
    refine t_g @hlo ?_
    refine t_r ?_
    simp [go_sem, hP, hgl, hn, this] <;> (try omega)
  · have hhi : 14 ≤ k := by omega
    have : known k = false := by simp [known]; omega
    refine t_g (j2 @hlo @hhi) ?_
    refine t_r ?_
    simp [go_sem, hP, hgl, hn, this] <;> (try omega)

theorem typed_ok (k : Int) : Con1 Tryz.prog gl 183 [dint k] [] (dbool (decide (k = 2) || decide (k = 6) || decide (k = 9))) [] := by
  refine t_in Tryz.func183 ?_
  intro X hP hgl hf hfn hn hR hids hfit
  by_cases hs0 : k = 2
  · refine t_g @hs0 ?_
    refine t_r ?_
    simp [go_sem, hP, hgl, hn, hs0] <;> (try omega)
  by_cases hs1 : k = 6
  · refine t_g @hs1 ?_
    refine t_r ?_
    simp [go_sem, hP, hgl, hn, hs1] <;> (try omega)
  by_cases hs2 : k = 9
  · refine t_g @hs2 ?_
    refine t_r ?_
    simp [go_sem, hP, hgl, hn, hs2] <;> (try omega)
  refine t_g (j2 @hs0 (j2 @hs1 @hs2)) ?_
  refine t_r ?_
  simp [go_sem, hP, hgl, hn, hs0, hs1, hs2] <;> (try omega)

theorem notype_ok (t : Ty) : Con1 Tryz.prog gl 184 [t.dv] [] (dbool t.zero) [] := by
  refine t_in Tryz.func184 ?_
  intro X hP hgl hf hfn hn hR hids hfit
  by_cases h : t.kind = 0
  · refine t_g @h ?_
    refine t_r ?_
    simp [go_sem, hP, hgl, hn, Ty.zero, h] <;> (try omega)
  · refine t_g @h ?_
    refine t_r ?_
    simp [go_sem, hP, hgl, hn, Ty.zero, h] <;> (try omega)

def Ty.nodesR (t : Ty) : DV := .tup [dint (if t.shape = true then t.count else 0 : Nat), dbool t.shape]

theorem typenodes_ok (t : Ty) (hc : t.count ≤ 2147483648) : Con1 Tryz.prog gl 161 [t.dv] [] t.nodesR [] := by
  induction t using Ty.ind with
  | h t ih =>
  rw [Ty.count_eq] at hc
  refine t_in Tryz.func161 ?_
  intro X hP hgl hf hfn hn hR hids hfit
  have hlen := Ty.fit_len (hfit t.dv (by simp))
  have hs := Ty.shape_eq t
  have no : t.shape = false → t.nodesR = .tup [dint 0, dbool false] := fun h => by simp [Ty.nodesR, h]
  refine t_rg0 ?_
  refine t_rg0 ?_
  refine t_rg0 ?_
  repeat (first | refine W_seq ?_ | refine W_skip ?_ | refine W_inBlock ?_ | refine W_label ?_)
  refine W_cutP (t.kind = 1 ∨ t.kind = 2 ∨ t.kind = 5 ∨ t.kind = 3 ∨ t.kind = 4) [(.slot 4, .one (.v (dint (wantI t.kind)))), (.loc 1, .row ([.v (dint t.kind), .v (.sl (t.args.map Ty.cells))])), (.slot 1, .one (.loc 1 0))] ?_ ?_
  · intro hrest
    by_cases h1 : t.kind = 1
    · repeat (first | (refine W_sub [] (by simp [go_sem]) (by simp [go_sem, wantI, h1] <;> omega) (by simp [go_sem]) (hrest (by simp [h1]))) | refine W_seq ?_ | refine W_skip ?_ | refine W_block ?_ | refine W_inBlock ?_ | refine W_label ?_ | refine W_exit rfl ?_ | ((first | refine W_reg [] fun K hK => ?_ | refine W_regd (by rw [hP]; exact mixed) [] fun K hK => ?_); simp [go_sem, hP, hgl, hn, h1]; (repeat (refine ⟨by omega, ?_⟩)); (first | refine hK _ ?_ | refine ⟨by rfl, hK _ ?_⟩); clear hK K) | refine W_cond rfl (fun _ => ?_) (fun hq => False.elim (by first | (simp [h1]; done) | (simp [h1]; omega) | (simp [h1] at hq; done) | (simp [h1] at hq; omega))) | refine W_cond rfl (fun hq => False.elim (by first | (simp [h1]; done) | (simp [h1]; omega) | (simp [h1] at hq; done) | (simp [h1] at hq; omega))) (fun _ => ?_))
    by_cases h2 : t.kind = 2
    · repeat (first | (refine W_sub [] (by simp [go_sem]) (by simp [go_sem, wantI, h2] <;> omega) (by simp [go_sem]) (hrest (by simp [h2]))) | refine W_seq ?_ | refine W_skip ?_ | refine W_block ?_ | refine W_inBlock ?_ | refine W_label ?_ | refine W_exit rfl ?_ | ((first | refine W_reg [] fun K hK => ?_ | refine W_regd (by rw [hP]; exact mixed) [] fun K hK => ?_); simp [go_sem, hP, hgl, hn, h2]; (repeat (refine ⟨by omega, ?_⟩)); (first | refine hK _ ?_ | refine ⟨by rfl, hK _ ?_⟩); clear hK K) | refine W_cond rfl (fun _ => ?_) (fun hq => False.elim (by first | (simp [h2]; done) | (simp [h2]; omega) | (simp [h2] at hq; done) | (simp [h2] at hq; omega))) | refine W_cond rfl (fun hq => False.elim (by first | (simp [h2]; done) | (simp [h2]; omega) | (simp [h2] at hq; done) | (simp [h2] at hq; omega))) (fun _ => ?_))
    by_cases h3 : t.kind = 5
    · repeat (first | (refine W_sub [] (by simp [go_sem]) (by simp [go_sem, wantI, h3] <;> omega) (by simp [go_sem]) (hrest (by simp [h3]))) | refine W_seq ?_ | refine W_skip ?_ | refine W_block ?_ | refine W_inBlock ?_ | refine W_label ?_ | refine W_exit rfl ?_ | ((first | refine W_reg [] fun K hK => ?_ | refine W_regd (by rw [hP]; exact mixed) [] fun K hK => ?_); simp [go_sem, hP, hgl, hn, h3]; (repeat (refine ⟨by omega, ?_⟩)); (first | refine hK _ ?_ | refine ⟨by rfl, hK _ ?_⟩); clear hK K) | refine W_cond rfl (fun _ => ?_) (fun hq => False.elim (by first | (simp [h3]; done) | (simp [h3]; omega) | (simp [h3] at hq; done) | (simp [h3] at hq; omega))) | refine W_cond rfl (fun hq => False.elim (by first | (simp [h3]; done) | (simp [h3]; omega) | (simp [h3] at hq; done) | (simp [h3] at hq; omega))) (fun _ => ?_))
    by_cases h4 : t.kind = 3
    · repeat (first | (refine W_sub [] (by simp [go_sem]) (by simp [go_sem, wantI, h4] <;> omega) (by simp [go_sem]) (hrest (by simp [h4]))) | refine W_seq ?_ | refine W_skip ?_ | refine W_block ?_ | refine W_inBlock ?_ | refine W_label ?_ | refine W_exit rfl ?_ | ((first | refine W_reg [] fun K hK => ?_ | refine W_regd (by rw [hP]; exact mixed) [] fun K hK => ?_); simp [go_sem, hP, hgl, hn, h4]; (repeat (refine ⟨by omega, ?_⟩)); (first | refine hK _ ?_ | refine ⟨by rfl, hK _ ?_⟩); clear hK K) | refine W_cond rfl (fun _ => ?_) (fun hq => False.elim (by first | (simp [h4]; done) | (simp [h4]; omega) | (simp [h4] at hq; done) | (simp [h4] at hq; omega))) | refine W_cond rfl (fun hq => False.elim (by first | (simp [h4]; done) | (simp [h4]; omega) | (simp [h4] at hq; done) | (simp [h4] at hq; omega))) (fun _ => ?_))
    by_cases h5 : t.kind = 4
    · repeat (first | (refine W_sub [] (by simp [go_sem]) (by simp [go_sem, wantI, h5] <;> omega) (by simp [go_sem]) (hrest (by simp [h5]))) | refine W_seq ?_ | refine W_skip ?_ | refine W_block ?_ | refine W_inBlock ?_ | refine W_label ?_ | refine W_exit rfl ?_ | ((first | refine W_reg [] fun K hK => ?_ | refine W_regd (by rw [hP]; exact mixed) [] fun K hK => ?_); simp [go_sem, hP, hgl, hn, h5]; (repeat (refine ⟨by omega, ?_⟩)); (first | refine hK _ ?_ | refine ⟨by rfl, hK _ ?_⟩); clear hK K) | refine W_cond rfl (fun _ => ?_) (fun hq => False.elim (by first | (simp [h5]; done) | (simp [h5]; omega) | (simp [h5] at hq; done) | (simp [h5] at hq; omega))) | refine W_cond rfl (fun hq => False.elim (by first | (simp [h5]; done) | (simp [h5]; omega) | (simp [h5] at hq; done) | (simp [h5] at hq; omega))) (fun _ => ?_))
    have hz := no (by rw [hs]; simp [tyKind, h1, h2, h3, h4, h5])
    refine t_g (j2 @h1 (j2 @h2 (j2 @h3 (j2 @h4 @h5)))) ?_
    refine t_r ?_
    simp [go_sem, hP, hgl, hn, hz] <;> (try omega)
  · intro hk
    by_cases hl : (t.args.length : Int) = wantI t.kind
    · have hty : tyKind t.kind t.args.length = true := by
        unfold wantI at hl
        unfold tyKind
        rcases hk with h | h | h | h | h <;> simp [h] at hl ⊢ <;> omega
      refine t_g @hl ?_
      refine t_a ?_
      refine W_sub [] (by simp [go_sem]) (by simp [go_sem, Ty.count.counts] <;> omega) (by simp [go_sem]) (W_listI (t.args) (fun done => Ty.shape.shapes done = true) (fun done rest => [(.slot 5, .one (.v (dint (1 + Ty.count.counts done : Nat)))), (.slot 27, .one (.v (dint done.length))), (.slot 26, .one (.v (dint t.args.length))), (.slot 25, .one (.v (.sl (t.args.map Ty.cells))))]) (rfl) ?_ ?_)
      · intro done x rest hL hg hI hnext
        have hlt : done.length < t.args.length := by rw [hL]; simp
        have hcx : Ty.count.counts t.args = Ty.count.counts done + (x.count + Ty.count.counts rest) := by rw [hL, Ty.counts_append]; rfl
        rw [Ty.counts_append] at hnext
        refine t_rg0 ?_
        refine t_yes ?_
        refine t_rg @hg ?_
        by_cases hx : x.shape = true
        · refine t_a ?_
          first | refine W_reg [] fun K hK => ?_ | refine W_regd (by rw [hP]; exact mixed) [] fun K hK => ?_
          simp [go_sem, hP, hgl, hn, hg, Ty.nodesR, hx]
          repeat (refine ⟨by omega, ?_⟩)
          first | refine vcK_call hP hgl (ih x (List.mem_of_getElem? hg) (by omega)) (by simp [go_sem, hP, hgl, hn, hg, Ty.nodesR, hx]) rfl (by simp [go_sem]) (by simp) (by rw [hn]; exact Nat.le_of_ble_eq_true rfl) ?_ | refine vcdC_call (fun _ _ => vcd_sound) hP hgl (ih x (List.mem_of_getElem? hg) (by omega)) (by simp [go_sem, hP, hgl, hn, hg, Ty.nodesR, hx]) rfl (by simp [go_sem]) (by simp) (by rw [hn]; exact Nat.le_of_ble_eq_true rfl) ?_ | refine vcK_callG hP hgl (ih x (List.mem_of_getElem? hg) (by omega)) (by simp [go_sem, hP, hgl, hn, hg, Ty.nodesR, hx]) rfl (by simp [go_sem]) (by simp) (by rw [hn]; exact Nat.le_of_ble_eq_true rfl) (by simp [go_sem]; rfl) (by rw [hn]; exact Nat.le_of_ble_eq_true rfl) (by simp [go_sem]) ?_ | refine vcdC_callG (fun _ _ => vcd_sound) hP hgl (ih x (List.mem_of_getElem? hg) (by omega)) (by simp [go_sem, hP, hgl, hn, hg, Ty.nodesR, hx]) rfl (by simp [go_sem]) (by simp) (by rw [hn]; exact Nat.le_of_ble_eq_true rfl) (by simp [go_sem]; rfl) (by rw [hn]; exact Nat.le_of_ble_eq_true rfl) (by simp [go_sem]) ?_
          simp [go_sem, hP, hgl, hn, hg, Ty.nodesR, hx]
          refine t_e ?_
          clear hK K
          repeat (first | (refine W_sub [] (by simp [go_sem]) (by simp [go_sem, Ty.count.counts] <;> omega) (by simp [go_sem]) (hnext (by rw [Ty.shapes_append]; simp [hI, Ty.shape.shapes, hx]))) | refine W_seq ?_ | refine W_skip ?_ | refine W_block ?_ | refine W_inBlock ?_ | refine W_label ?_ | refine W_exit rfl ?_ | ((first | refine W_reg [] fun K hK => ?_ | refine W_regd (by rw [hP]; exact mixed) [] fun K hK => ?_); simp [go_sem, hP, hgl, hn, hx]; (repeat (refine ⟨by omega, ?_⟩)); (first | refine hK _ ?_ | refine ⟨by rfl, hK _ ?_⟩); clear hK K) | refine W_cond rfl (fun _ => ?_) (fun hq => False.elim (by first | (simp [hx]; done) | (simp [hx]; omega) | (simp [hx] at hq; done) | (simp [hx] at hq; omega))) | refine W_cond rfl (fun hq => False.elim (by first | (simp [hx]; done) | (simp [hx]; omega) | (simp [hx] at hq; done) | (simp [hx] at hq; omega))) (fun _ => ?_))
        · have hz := no (by rw [hs, hL, Ty.shapes_append]; simp [Ty.shape.shapes, hx])
          refine t_a ?_
          first | refine W_reg [] fun K hK => ?_ | refine W_regd (by rw [hP]; exact mixed) [] fun K hK => ?_
          simp [go_sem, hP, hgl, hn, hg, Ty.nodesR, hx]
          repeat (refine ⟨by omega, ?_⟩)
          first | refine vcK_call hP hgl (ih x (List.mem_of_getElem? hg) (by omega)) (by simp [go_sem, hP, hgl, hn, hg, Ty.nodesR, hx]) rfl (by simp [go_sem]) (by simp) (by rw [hn]; exact Nat.le_of_ble_eq_true rfl) ?_ | refine vcdC_call (fun _ _ => vcd_sound) hP hgl (ih x (List.mem_of_getElem? hg) (by omega)) (by simp [go_sem, hP, hgl, hn, hg, Ty.nodesR, hx]) rfl (by simp [go_sem]) (by simp) (by rw [hn]; exact Nat.le_of_ble_eq_true rfl) ?_ | refine vcK_callG hP hgl (ih x (List.mem_of_getElem? hg) (by omega)) (by simp [go_sem, hP, hgl, hn, hg, Ty.nodesR, hx]) rfl (by simp [go_sem]) (by simp) (by rw [hn]; exact Nat.le_of_ble_eq_true rfl) (by simp [go_sem]; rfl) (by rw [hn]; exact Nat.le_of_ble_eq_true rfl) (by simp [go_sem]) ?_ | refine vcdC_callG (fun _ _ => vcd_sound) hP hgl (ih x (List.mem_of_getElem? hg) (by omega)) (by simp [go_sem, hP, hgl, hn, hg, Ty.nodesR, hx]) rfl (by simp [go_sem]) (by simp) (by rw [hn]; exact Nat.le_of_ble_eq_true rfl) (by simp [go_sem]; rfl) (by rw [hn]; exact Nat.le_of_ble_eq_true rfl) (by simp [go_sem]) ?_
          simp [go_sem, hP, hgl, hn, hg, Ty.nodesR, hx]
          refine t_e ?_
          clear hK K
          refine t_g @hx ?_
          refine t_r ?_
          simp [go_sem, hP, hgl, hn, hz] <;> (try omega)
      · intro hI
        have hz : t.nodesR = .tup [dint t.count, dbool true] := by simp [Ty.nodesR, hs, hty, hI]
        refine t_rg0 ?_
        refine t_no ?_
        refine t_g0 ?_
        refine t_r ?_
        simp [go_sem, hP, hgl, hn, hz, Ty.count_eq] <;> (try omega)
    · have hz := no (by
        rw [hs]
        have : tyKind t.kind t.args.length = false := by
          unfold wantI at hl
          unfold tyKind
          rcases hk with h | h | h | h | h <;> simp [h] at hl ⊢ <;> omega
        simp [this])
      refine t_g @hl ?_
      refine t_r ?_
      simp [go_sem, hP, hgl, hn, hz] <;> (try omega)

theorem checktype_ok (t : Ty) (hc : t.count ≤ 2147483648) : Con1 Tryz.prog gl 129 [t.dv] [] (.tup [dint (if t.checkN = 0 then t.count else 0 : Nat), dint t.checkN]) [] := by
  refine t_in Tryz.func129 ?_
  intro X hP hgl hf hfn hn hR hids hfit
  refine t_g0 ?_
  by_cases h : t.shape = true
  · refine t_a ?_
    first | refine W_reg [] fun K hK => ?_ | refine W_regd (by rw [hP]; exact mixed) [] fun K hK => ?_
    simp [go_sem, hP, hgl, hn, Ty.nodesR, h]
    repeat (refine ⟨by omega, ?_⟩)
    first | refine vcK_call hP hgl (typenodes_ok t hc) (by simp [go_sem, hP, hgl, hn, Ty.nodesR, h]) rfl (by simp [go_sem]) (by simp) (by rw [hn]; exact Nat.le_of_ble_eq_true rfl) ?_ | refine vcdC_call (fun _ _ => vcd_sound) hP hgl (typenodes_ok t hc) (by simp [go_sem, hP, hgl, hn, Ty.nodesR, h]) rfl (by simp [go_sem]) (by simp) (by rw [hn]; exact Nat.le_of_ble_eq_true rfl) ?_ | refine vcK_callG hP hgl (typenodes_ok t hc) (by simp [go_sem, hP, hgl, hn, Ty.nodesR, h]) rfl (by simp [go_sem]) (by simp) (by rw [hn]; exact Nat.le_of_ble_eq_true rfl) (by simp [go_sem]; rfl) (by rw [hn]; exact Nat.le_of_ble_eq_true rfl) (by simp [go_sem]) ?_ | refine vcdC_callG (fun _ _ => vcd_sound) hP hgl (typenodes_ok t hc) (by simp [go_sem, hP, hgl, hn, Ty.nodesR, h]) rfl (by simp [go_sem]) (by simp) (by rw [hn]; exact Nat.le_of_ble_eq_true rfl) (by simp [go_sem]; rfl) (by rw [hn]; exact Nat.le_of_ble_eq_true rfl) (by simp [go_sem]) ?_
    simp [go_sem, hP, hgl, hn, Ty.nodesR, h]
    refine t_e ?_
    clear hK K
    by_cases h2 : 64 < t.count
    · refine t_g (j2 @h @h2) ?_
      refine t_r ?_
      simp [go_sem, hP, hgl, hn, Ty.checkN, h, h2] <;> (try omega)
    · refine t_g (j2 @h @h2) ?_
      refine t_r ?_
      simp [go_sem, hP, hgl, hn, Ty.checkN, h, h2] <;> (try omega)
  · refine t_a ?_
    first | refine W_reg [] fun K hK => ?_ | refine W_regd (by rw [hP]; exact mixed) [] fun K hK => ?_
    simp [go_sem, hP, hgl, hn, Ty.nodesR, h]
    repeat (refine ⟨by omega, ?_⟩)
    first | refine vcK_call hP hgl (typenodes_ok t hc) (by simp [go_sem, hP, hgl, hn, Ty.nodesR, h]) rfl (by simp [go_sem]) (by simp) (by rw [hn]; exact Nat.le_of_ble_eq_true rfl) ?_ | refine vcdC_call (fun _ _ => vcd_sound) hP hgl (typenodes_ok t hc) (by simp [go_sem, hP, hgl, hn, Ty.nodesR, h]) rfl (by simp [go_sem]) (by simp) (by rw [hn]; exact Nat.le_of_ble_eq_true rfl) ?_ | refine vcK_callG hP hgl (typenodes_ok t hc) (by simp [go_sem, hP, hgl, hn, Ty.nodesR, h]) rfl (by simp [go_sem]) (by simp) (by rw [hn]; exact Nat.le_of_ble_eq_true rfl) (by simp [go_sem]; rfl) (by rw [hn]; exact Nat.le_of_ble_eq_true rfl) (by simp [go_sem]) ?_ | refine vcdC_callG (fun _ _ => vcd_sound) hP hgl (typenodes_ok t hc) (by simp [go_sem, hP, hgl, hn, Ty.nodesR, h]) rfl (by simp [go_sem]) (by simp) (by rw [hn]; exact Nat.le_of_ble_eq_true rfl) (by simp [go_sem]; rfl) (by rw [hn]; exact Nat.le_of_ble_eq_true rfl) (by simp [go_sem]) ?_
    simp [go_sem, hP, hgl, hn, Ty.nodesR, h]
    refine t_e ?_
    clear hK K
    refine t_g @h ?_
    refine t_r ?_
    simp [go_sem, hP, hgl, hn, Ty.checkN, h] <;> (try omega)

def okNodeP (t : Tm) : Bool := known t.kind && decide ((t.args.length : Int) = arityI t.kind) && decide (0 ≤ t.index) && (decide (t.index = 0) || decide (t.kind = 1))
theorem okNodeP_eq (t : Tm) : okNodeP t = okNode t := by
  unfold okNodeP okNode
  rw [arityI_known]
  cases h : decide ((t.args.length : Int) = arityI t.kind) with
  | false => simp
  | true =>
    have h1 : (t.args.length : Int) = arityI t.kind := by simpa using h
    have : decide (0 ≤ arityI t.kind) = true := by simp; omega
    rw [this]
    cases decide (0 ≤ t.index) <;> cases decide (t.index = 0) <;> cases decide (t.kind = 1) <;> rfl

def Tm.nodesR (t : Tm) : DV := .tup [dint (if t.shape = true then t.count else 0 : Nat), dbool t.shape]

theorem termnodes_ok (har : globOf gl 0 = some arEls) (t : Tm) (ht : t.tys) (hc : t.count ≤ 2147483648) : Con1 Tryz.prog gl 159 [t.dv] [] t.nodesR [] := by
  induction t using Tm.ind with
  | h t ih =>
  obtain ⟨ht1, ht2⟩ := (Tm.tys_eq t).1 ht
  rw [Tm.count_eq] at hc
  refine t_in Tryz.func159 ?_
  intro X hP hgl hf hfn hn hR hids hfit
  have hlen := Tm.fit_len (hfit t.dv (by simp))
  have hs := Tm.shape_eq t
  have no : t.shape = false → t.nodesR = .tup [dint 0, dbool false] := fun h => by simp [Tm.nodesR, h]
  refine t_g0 ?_
  refine t_c1 trivial (arity_ok har t.kind) ?_
  repeat (first | refine W_seq ?_ | refine W_skip ?_ | refine W_inBlock ?_ | refine W_label ?_)
  refine W_cut [(.slot 42, .one (.v (dbool (!okNodeP t)))), (.loc 1, .row ([.v (dint t.kind), .v (dint t.index), .v (dint t.type.kind), .v (.sl (t.type.args.map Ty.cells)), .v (.sl (t.args.map Tm.cells))])), (.slot 1, .one (.loc 1 0))] ?_ ?_
  · intro hrest
    by_cases h0 : known t.kind = true
    · by_cases hA : (t.args.length : Int) = arityI t.kind
      · by_cases hB : t.index < 0
        · refine t_rg (j2 @h0 (j2 @hA @hB)) ?_
          repeat (first | refine W_inBlock ?_ | refine W_skip ?_ | refine W_label ?_ | refine W_exit rfl ?_)
          refine W_sub [] (by simp [go_sem]) (by simp [go_sem, okNodeP, h0, hA, hB] <;> omega) (by simp [go_sem]) hrest
        · by_cases hD : t.index = 0
          · refine t_rg (j2 @h0 (j2 @hA (j2 @hB @hD))) ?_
            repeat (first | refine W_inBlock ?_ | refine W_skip ?_ | refine W_label ?_ | refine W_exit rfl ?_)
            refine W_sub [] (by simp [go_sem]) (by simp [go_sem, okNodeP, h0, hA, hB, hD] <;> omega) (by simp [go_sem]) hrest
          · by_cases hC : t.kind = 1
            · have h01 : known 1 = true := rfl
              refine t_rg (j2 @h0 (j2 @hA (j2 @hB (j2 @hD (j2 @hC @h01))))) ?_
              repeat (first | refine W_inBlock ?_ | refine W_skip ?_ | refine W_label ?_ | refine W_exit rfl ?_)
              refine W_sub [] (by simp [go_sem]) (by simp [go_sem, okNodeP, h0, hA, hB, hD, hC, h01] <;> omega) (by simp [go_sem]) hrest
            · refine t_rg (j2 @h0 (j2 @hA (j2 @hB (j2 @hD @hC)))) ?_
              repeat (first | refine W_inBlock ?_ | refine W_skip ?_ | refine W_label ?_ | refine W_exit rfl ?_)
              refine W_sub [] (by simp [go_sem]) (by simp [go_sem, okNodeP, h0, hA, hB, hD, hC] <;> omega) (by simp [go_sem]) hrest
      · refine t_rg (j2 @h0 @hA) ?_
        repeat (first | refine W_inBlock ?_ | refine W_skip ?_ | refine W_label ?_ | refine W_exit rfl ?_)
        refine W_sub [] (by simp [go_sem]) (by simp [go_sem, okNodeP, h0, hA] <;> omega) (by simp [go_sem]) hrest
    · refine t_rg @h0 ?_
      repeat (first | refine W_inBlock ?_ | refine W_skip ?_ | refine W_label ?_ | refine W_exit rfl ?_)
      refine W_sub [] (by simp [go_sem]) (by simp [go_sem, okNodeP, h0] <;> omega) (by simp [go_sem]) hrest
  · rw [okNodeP_eq]
    by_cases hok : okNode t = true
    · have hk : tmKind t.kind t.index t.type t.args.length = tyOfKind t.kind t.type := by
        simp only [okNode, Bool.and_eq_true, decide_eq_true_eq] at hok
        simp [tmKind, hok]
      refine t_n @hok ?_
      refine t_c1 trivial (typed_ok t.kind) ?_
      repeat (first | refine W_seq ?_ | refine W_skip ?_ | refine W_inBlock ?_ | refine W_label ?_)
      refine W_cutP (tyOfKind t.kind t.type = true) [(.loc 1, .row ([.v (dint t.kind), .v (dint t.index), .v (dint t.type.kind), .v (.sl (t.type.args.map Ty.cells)), .v (.sl (t.args.map Tm.cells))])), (.slot 1, .one (.loc 1 0))] ?_ ?_
      · intro hrest
        by_cases k2 : t.kind = 2
        · refine t_g @k2 ?_
          refine t_c1 trivial (checktype_ok t.type (by omega)) ?_
          by_cases hc : t.type.checkN = 0
          · refine t_gt (wr []) @k2 (j2 @k2 @hc) (hrest (by simp [tyOfKind, k2, hc]))
          · have hz := no (by rw [hs, hk]; simp [tyOfKind, k2, hc])
            refine t_g @hc ?_
            refine t_r ?_
            simp [go_sem, hP, hgl, hn, hz] <;> (try omega)
        by_cases k6 : t.kind = 6
        · refine t_g @k6 ?_
          refine t_c1 trivial (checktype_ok t.type (by omega)) ?_
          by_cases hc : t.type.checkN = 0
          · refine t_gt (wr []) @k6 (j2 @k6 @hc) (hrest (by simp [tyOfKind, k6, hc]))
          · have hz := no (by rw [hs, hk]; simp [tyOfKind, k6, hc])
            refine t_g @hc ?_
            refine t_r ?_
            simp [go_sem, hP, hgl, hn, hz] <;> (try omega)
        by_cases k9 : t.kind = 9
        · refine t_g @k9 ?_
          refine t_c1 trivial (checktype_ok t.type (by omega)) ?_
          by_cases hc : t.type.checkN = 0
          · refine t_gt (wr []) @k9 (j2 @k9 @hc) (hrest (by simp [tyOfKind, k9, hc]))
          · have hz := no (by rw [hs, hk]; simp [tyOfKind, k9, hc])
            refine t_g @hc ?_
            refine t_r ?_
            simp [go_sem, hP, hgl, hn, hz] <;> (try omega)
        refine t_g (j2 @k2 (j2 @k6 @k9)) ?_
        refine t_c1 trivial (notype_ok t.type) ?_
        by_cases hc : t.type.zero = true
        · refine t_gt (wr []) trivial @hc (hrest (by simp [tyOfKind, k2, k6, k9, hc]))
        · have hz := no (by rw [hs, hk]; simp [tyOfKind, k2, k6, k9, hc])
          refine t_g @hc ?_
          refine t_r ?_
          simp [go_sem, hP, hgl, hn, hz] <;> (try omega)
      · intro hty
        refine t_g0 ?_
        refine t_a ?_
        refine W_sub [] (by simp [go_sem]) (by simp [go_sem, Tm.count.counts] <;> omega) (by simp [go_sem]) (W_listI (t.args) (fun done => Tm.shape.shapes done = true) (fun done rest => [(.slot 8, .one (.v (dint (1 + Tm.count.counts done : Nat)))), (.slot 61, .one (.v (dint done.length))), (.slot 60, .one (.v (dint t.args.length))), (.slot 59, .one (.v (.sl (t.args.map Tm.cells))))]) (rfl) ?_ ?_)
        · intro done x rest hL hg hI hnext
          have hlt : done.length < t.args.length := by rw [hL]; simp
          have hcx : Tm.count.counts t.args = Tm.count.counts done + (x.count + Tm.count.counts rest) := by rw [hL, Tm.counts_append]; rfl
          rw [Tm.counts_append] at hnext
          refine t_rg0 ?_
          refine t_yes ?_
          refine t_rg @hg ?_
          by_cases hx : x.shape = true
          · refine t_a ?_
            first | refine W_reg [] fun K hK => ?_ | refine W_regd (by rw [hP]; exact mixed) [] fun K hK => ?_
            simp [go_sem, hP, hgl, hn, hg, Tm.nodesR, hx]
            repeat (refine ⟨by omega, ?_⟩)
            first | refine vcK_call hP hgl (ih x (List.mem_of_getElem? hg) (ht2 x (List.mem_of_getElem? hg)) (by omega)) (by simp [go_sem, hP, hgl, hn, hg, Tm.nodesR, hx]) rfl (by simp [go_sem]) (by simp) (by rw [hn]; exact Nat.le_of_ble_eq_true rfl) ?_ | refine vcdC_call (fun _ _ => vcd_sound) hP hgl (ih x (List.mem_of_getElem? hg) (ht2 x (List.mem_of_getElem? hg)) (by omega)) (by simp [go_sem, hP, hgl, hn, hg, Tm.nodesR, hx]) rfl (by simp [go_sem]) (by simp) (by rw [hn]; exact Nat.le_of_ble_eq_true rfl) ?_ | refine vcK_callG hP hgl (ih x (List.mem_of_getElem? hg) (ht2 x (List.mem_of_getElem? hg)) (by omega)) (by simp [go_sem, hP, hgl, hn, hg, Tm.nodesR, hx]) rfl (by simp [go_sem]) (by simp) (by rw [hn]; exact Nat.le_of_ble_eq_true rfl) (by simp [go_sem]; rfl) (by rw [hn]; exact Nat.le_of_ble_eq_true rfl) (by simp [go_sem]) ?_ | refine vcdC_callG (fun _ _ => vcd_sound) hP hgl (ih x (List.mem_of_getElem? hg) (ht2 x (List.mem_of_getElem? hg)) (by omega)) (by simp [go_sem, hP, hgl, hn, hg, Tm.nodesR, hx]) rfl (by simp [go_sem]) (by simp) (by rw [hn]; exact Nat.le_of_ble_eq_true rfl) (by simp [go_sem]; rfl) (by rw [hn]; exact Nat.le_of_ble_eq_true rfl) (by simp [go_sem]) ?_
            simp [go_sem, hP, hgl, hn, hg, Tm.nodesR, hx]
            refine t_e ?_
            clear hK K
            repeat (first | (refine W_sub [] (by simp [go_sem]) (by simp [go_sem, Tm.count.counts] <;> omega) (by simp [go_sem]) (hnext (by rw [Tm.shapes_append]; simp [hI, Tm.shape.shapes, hx]))) | refine W_seq ?_ | refine W_skip ?_ | refine W_block ?_ | refine W_inBlock ?_ | refine W_label ?_ | refine W_exit rfl ?_ | ((first | refine W_reg [] fun K hK => ?_ | refine W_regd (by rw [hP]; exact mixed) [] fun K hK => ?_); simp [go_sem, hP, hgl, hn, hx]; (repeat (refine ⟨by omega, ?_⟩)); (first | refine hK _ ?_ | refine ⟨by rfl, hK _ ?_⟩); clear hK K) | refine W_cond rfl (fun _ => ?_) (fun hq => False.elim (by first | (simp [hx]; done) | (simp [hx]; omega) | (simp [hx] at hq; done) | (simp [hx] at hq; omega))) | refine W_cond rfl (fun hq => False.elim (by first | (simp [hx]; done) | (simp [hx]; omega) | (simp [hx] at hq; done) | (simp [hx] at hq; omega))) (fun _ => ?_))
          · have hz := no (by rw [hs, hL, Tm.shapes_append]; simp [Tm.shape.shapes, hx])
            refine t_a ?_
            first | refine W_reg [] fun K hK => ?_ | refine W_regd (by rw [hP]; exact mixed) [] fun K hK => ?_
            simp [go_sem, hP, hgl, hn, hg, Tm.nodesR, hx]
            repeat (refine ⟨by omega, ?_⟩)
            first | refine vcK_call hP hgl (ih x (List.mem_of_getElem? hg) (ht2 x (List.mem_of_getElem? hg)) (by omega)) (by simp [go_sem, hP, hgl, hn, hg, Tm.nodesR, hx]) rfl (by simp [go_sem]) (by simp) (by rw [hn]; exact Nat.le_of_ble_eq_true rfl) ?_ | refine vcdC_call (fun _ _ => vcd_sound) hP hgl (ih x (List.mem_of_getElem? hg) (ht2 x (List.mem_of_getElem? hg)) (by omega)) (by simp [go_sem, hP, hgl, hn, hg, Tm.nodesR, hx]) rfl (by simp [go_sem]) (by simp) (by rw [hn]; exact Nat.le_of_ble_eq_true rfl) ?_ | refine vcK_callG hP hgl (ih x (List.mem_of_getElem? hg) (ht2 x (List.mem_of_getElem? hg)) (by omega)) (by simp [go_sem, hP, hgl, hn, hg, Tm.nodesR, hx]) rfl (by simp [go_sem]) (by simp) (by rw [hn]; exact Nat.le_of_ble_eq_true rfl) (by simp [go_sem]; rfl) (by rw [hn]; exact Nat.le_of_ble_eq_true rfl) (by simp [go_sem]) ?_ | refine vcdC_callG (fun _ _ => vcd_sound) hP hgl (ih x (List.mem_of_getElem? hg) (ht2 x (List.mem_of_getElem? hg)) (by omega)) (by simp [go_sem, hP, hgl, hn, hg, Tm.nodesR, hx]) rfl (by simp [go_sem]) (by simp) (by rw [hn]; exact Nat.le_of_ble_eq_true rfl) (by simp [go_sem]; rfl) (by rw [hn]; exact Nat.le_of_ble_eq_true rfl) (by simp [go_sem]) ?_
            simp [go_sem, hP, hgl, hn, hg, Tm.nodesR, hx]
            refine t_e ?_
            clear hK K
            refine t_g @hx ?_
            refine t_r ?_
            simp [go_sem, hP, hgl, hn, hz] <;> (try omega)
        · intro hI
          have hz : t.nodesR = .tup [dint t.count, dbool true] := by simp [Tm.nodesR, hs, hk, hty, hI]
          refine t_rg0 ?_
          refine t_no ?_
          refine t_g0 ?_
          refine t_r ?_
          simp [go_sem, hP, hgl, hn, hz, Tm.count_eq] <;> (try omega)
    · have hk : tmKind t.kind t.index t.type t.args.length = false := by
        simp only [okNode, Bool.and_eq_true, decide_eq_true_eq] at hok
        simp only [tmKind]
        cases hh : (decide ((t.args.length : Int) = arityI t.kind) && decide (0 ≤ t.index) && (decide (t.kind = 1) || decide (t.index = 0))) with
        | true => exact absurd (by simpa using hh) hok
        | false => rfl
      have hz := no (by rw [hs, hk]; rfl)
      refine t_g @hok ?_
      refine t_r ?_
      simp [go_sem, hP, hgl, hn, hz] <;> (try omega)
end Go.Proofs.YteoalfdaanlbjaaGreatDoor.Lift

namespace Go.Proofs.YteoalfdaanlbjaaGreatDoor.Lift
set_option linter.unusedSimpArgs false
set_option linter.unusedVariables false
set_option linter.unnecessarySimpa false
open Go
variable {gl : Globs}

theorem nextD_le {l : List Int} {p : Nat} {n : Int} (h : p ≤ l.length) : (nextD l p n).2 ≤ l.length := by
  unfold nextD
  split
  · exact h
  · split
    · rename_i x hx
      have := (List.getElem?_eq_some_iff.1 hx).1
      simp only; omega
    · exact h

theorem nextD_bd {l : List Int} {p : Nat} {n : Int} (h : 1 ≤ n) : 0 ≤ (nextD l p n).1 ∧ (nextD l p n).1 < n := by
  unfold nextD
  rw [if_neg (by omega)]
  split
  · rename_i x hx
    have := modz_bd x n h
    exact ⟨this.1, this.2.1⟩
  · exact ⟨by simp, by simp; omega⟩

/-- the types of plain values: a pair has two parts -/
def Ty.plain : Ty → Prop
  | .mk k ts => (k = 3 → ts.length = 2) ∧ plains ts
where
  plains : List Ty → Prop
    | [] => True
    | t :: r => t.plain ∧ plains r

end Go.Proofs.YteoalfdaanlbjaaGreatDoor.Lift

namespace Go.Proofs.YteoalfdaanlbjaaGreatDoor.Lift
set_option linter.unusedSimpArgs false
set_option linter.unusedVariables false
set_option linter.unnecessarySimpa false
open Go
variable {gl : Globs}

theorem Val.fit_args {t : Val} (h : t.dv.fit) : t.args.length ≤ 2147483648 := ((Val.fit_eq t).1 ((Val.dv_fit t).1 h)).2.2.2.1
theorem Val.fit_list {t : Val} (h : t.dv.fit) : t.list.length ≤ 2147483648 := ((Val.fit_eq t).1 ((Val.dv_fit t).1 h)).2.2.1.1

theorem of_ok (k : Int) (l : List Tm) : Con1 Tryz.prog gl 190 [dint k, .sl (l.map Tm.cells)] [] (Tm.mk k 0 (Ty.mk 0 []) l).dv [] := by
  refine t_in Tryz.func190 ?_
  intro X hP hgl hf hfn hn hR hids hfit
  refine t_rg0 ?_
  refine t_rg0 ?_
  refine t_r ?_
  simp [go_sem, hP, hgl, hn] <;> (try omega)
  all_goals exact t_f

def numTm : Nat → Tm
  | 0 => Tm.mk 4 0 (Ty.mk 0 []) []
  | n + 1 => Tm.mk 5 0 (Ty.mk 0 []) [numTm n]

def sizeI (n : Int) : Int := min n 4096 + 1
/-- the number of nodes of a value, and whether all have a form -/
def Val.okB (v : Val) : Bool :=
  if v.kind = 1 then decide (0 ≤ v.num) && decide (v.list.length = 0) && decide (v.args.length = 0)
  else if v.kind = 2 then decide (v.num = 0) && !v.list.any (fun n => decide (n < 0)) && decide (v.args.length = 0)
  else if v.kind = 3 then decide (v.num = 0) && decide (v.list.length = 0) && decide (v.args.length = 2)
  else if v.kind = 4 then decide (v.num = 0) && decide (v.list.length = 0) && decide (v.args.length = 0)
  else false

theorem negative_ok (n : Int) : Con1 Tryz.prog gl 163 [dint n] [] (dbool (decide (n < 0))) [] := by
  refine t_in Tryz.func163 ?_
  intro X hP hgl hf hfn hn hR hids hfit
  refine t_rg0 ?_
  refine t_rg0 ?_
  refine t_r ?_
  simp [go_sem, hP, hgl, hn] <;> (try omega)

abbrev fnv (f : Nat) : DV := .prim (.func (.func f) #[] #[])

/-- the first place of a negative number -/
def idxNeg (l : List Int) : Int := match l.findIdx? (fun n => decide (n < 0)) with
  | some k => k
  | none => -1

theorem indexNeg_ok (l : List Int) : Con1 Tryz.prog gl 186 [.sl (ints l), fnv 163] [] (dint (idxNeg l)) [] := by
  refine t_in Tryz.func186 ?_
  intro X hP hgl hf hfn hn hR hids hfit
  have hlen : l.length ≤ 2147483648 := by simpa [ints] using sl_len (hfit (.sl (ints l)) (by simp))
  refine t_rg0 ?_
  refine t_rg0 ?_
  refine t_a ?_
  refine t_sub [] trivial (W_upto (l.length) (fun i => ∀ (j : Nat) (x : Int), j < i → l[j]? = some x → 0 ≤ x) (fun i => [(.slot 8, .one (.v (dint i))), (.slot 7, .one (.v (dint l.length))), (.slot 6, .one (.v (.sl (ints l)))), (.slot 0, .one (.v (.sl (ints l)))), (.slot 1, .one (.v (fnv 163)))]) (by intro j x h; omega) ?_ ?_)
  · intro i hlt hI hnext
    obtain ⟨x, hx⟩ : ∃ x, l[i]? = some x := ⟨_, List.getElem?_eq_getElem hlt⟩
    have hg := ints_get hx
    refine t_rg0 ?_
    refine t_yes ?_
    refine t_rg0 ?_
    refine t_a ?_
    first | refine W_reg [] fun K hK => ?_ | refine W_regd (by rw [hP]; exact mixed) [] fun K hK => ?_
    refine t_s @hg ?_
    repeat (refine ⟨by omega, ?_⟩)
    refine vcK_callF hP hgl (negative_ok x) (by simp [go_sem]) (by simp [go_sem, hP, hgl, hn]) rfl (by simp [go_sem]) (by simp) (by rw [hn]; exact Nat.le_of_ble_eq_true rfl) ?_
    simp [go_sem, hP, hgl, hn]
    refine t_e ?_
    clear hK K
    by_cases hneg : x < 0
    · refine t_a ?_
      refine W_cond rfl ?_ ?_
      rotate_left
      · intro h; simp [hneg] at h
      intro _
      refine t_rg0 ?_
      refine t_r ?_
      simp [go_sem, hP, hgl, hn] <;> (try omega)
      unfold idxNeg
      have : l.findIdx? (fun n => decide (n < 0)) = some i := by
        rw [List.findIdx?_eq_some_iff_getElem]
        obtain ⟨h1, h2⟩ := List.getElem?_eq_some_iff.1 hx
        refine ⟨h1, by simp [h2, hneg], fun j hj => ?_⟩
        have := hI j l[j] hj (List.getElem?_eq_getElem (by omega))
        simp; omega
      rw [this]
    · refine t_a ?_
      refine W_cond rfl ?_ ?_
      · intro h; simp [hneg] at h
      intro _
      refine t_rg0 ?_
      refine t_b ?_
      refine t_sub [] trivial (hnext ?_)
      intro j y hj hy
      by_cases hji : j = i
      · subst hji; rw [hx] at hy; cases hy; omega
      · exact hI j y (by omega) hy
  · intro hI
    refine t_rg0 ?_
    refine t_no ?_
    refine t_rg0 ?_
    refine t_r ?_
    simp [go_sem, hP, hgl, hn] <;> (try omega)
    unfold idxNeg
    have : l.findIdx? (fun n => decide (n < 0)) = none := by
      rw [List.findIdx?_eq_none_iff]
      intro x hx
      obtain ⟨i, hi, rfl⟩ := List.mem_iff_getElem.1 hx
      have := hI i l[i] hi (List.getElem?_eq_getElem hi)
      simp; omega
    rw [this]

theorem contains_ok (l : List Int) : Con1 Tryz.prog gl 164 [.sl (ints l), fnv 163] [] (dbool (l.any (fun n => decide (n < 0)))) [] := by
  refine t_in Tryz.func164 ?_
  intro X hP hgl hf hfn hn hR hids hfit
  refine t_rg0 ?_
  refine t_a ?_
  first | refine W_reg [] fun K hK => ?_ | refine W_regd (by rw [hP]; exact mixed) [] fun K hK => ?_
  refine t_s0 ?_
  refine t_c trivial (indexNeg_ok l) ?_
  refine t_e ?_
  clear hK K
  refine t_r ?_
  simp [go_sem, hP, hgl, hn] <;> (try omega)
  unfold idxNeg
  cases h : l.findIdx? (fun n => decide (n < 0)) with
  | none =>
    rw [List.findIdx?_eq_none_iff] at h
    have : l.any (fun n => decide (n < 0)) = false := by
      rw [List.any_eq_false]
      intro x hx
      simp [h x hx]
    simp only [this]
    decide
  | some k =>
    obtain ⟨h1, h2, -⟩ := List.findIdx?_eq_some_iff_getElem.1 h
    have : l.any (fun n => decide (n < 0)) = true := by
      rw [List.any_eq_true]
      exact ⟨_, List.getElem_mem h1, h2⟩
    simp [this]

end Go.Proofs.YteoalfdaanlbjaaGreatDoor.Lift

namespace Go.Proofs.YteoalfdaanlbjaaGreatDoor.Lift
set_option linter.unusedSimpArgs false
set_option linter.unusedVariables false
set_option linter.unnecessarySimpa false
open Go
variable {gl : Globs}

def Val.nodesN : Val → Int × Bool
  | .mk k n l a => nodesL a (1, Val.okB (.mk k n l a))
where
  nodesL : List Val → Int × Bool → Int × Bool
    | [], p => p
    | a :: r, p => if p.2 then nodesL r (p.1 + (Val.nodesN a).1, (Val.nodesN a).2) else p
theorem Val.nodesN_eq (v : Val) : v.nodesN = nodesN.nodesL v.args (1, v.okB) := by cases v; simp [nodesN, args]
theorem Val.nodesL_no (l : List Val) (n : Int) : nodesN.nodesL l (n, false) = (n, false) := by cases l <;> simp [nodesN.nodesL]
theorem Val.nodesL_append (l m : List Val) (p : Int × Bool) : nodesN.nodesL (l ++ m) p = nodesN.nodesL m (nodesN.nodesL l p) := by
  induction l generalizing p with
  | nil => simp [nodesN.nodesL]
  | cons a r ih =>
    obtain ⟨n, ok⟩ := p
    cases ok with
    | true => simp [nodesN.nodesL, ih]
    | false => simp [nodesL_no]

/-- the number of nodes of a value -/
def Val.count : Val → Nat
  | .mk _ _ _ a => 1 + counts a
where
  counts : List Val → Nat
    | [] => 0
    | a :: r => a.count + counts r
theorem Val.count_eq (t : Val) : t.count = 1 + Val.count.counts t.args := by cases t; simp [count, args]
theorem Val.counts_append (l m : List Val) : Val.count.counts (l ++ m) = Val.count.counts l + Val.count.counts m := by
  induction l with
  | nil => simp [Val.count.counts]
  | cons a r ih => simp [Val.count.counts, ih]; omega

theorem Val.nodesL_le {v : Val} (ih : ∀ a ∈ v.args, 0 ≤ a.nodesN.1 ∧ a.nodesN.1 ≤ a.count) (l : List Val) : (∀ a ∈ l, a ∈ v.args) → ∀ (n : Int) (ok : Bool), n ≤ (nodesN.nodesL l (n, ok)).1 ∧ (nodesN.nodesL l (n, ok)).1 ≤ n + Val.count.counts l := by
  induction l with
  | nil => intro _ n ok; simp [nodesN.nodesL, Val.count.counts]
  | cons a r ihr =>
    intro h n ok
    have h1 := ih a (h a (by simp))
    cases ok with
    | false => simp [nodesL_no, Val.count.counts]; omega
    | true =>
      have h2 := ihr (fun b hb => h b (List.mem_cons_of_mem _ hb)) (n + a.nodesN.1) a.nodesN.2
      simp only [nodesN.nodesL, if_true, Val.count.counts]
      omega
theorem Val.nodes_le (v : Val) : 0 ≤ v.nodesN.1 ∧ v.nodesN.1 ≤ v.count := by
  induction v using Val.ind with
  | h v ih =>
  have := Val.nodesL_le ih v.args (fun _ h => h) 1 v.okB
  rw [nodesN_eq, count_eq]
  omega

theorem nodes_ok (v : Val) (hc : v.count ≤ 2147483648) : Con1 Tryz.prog gl 133 [v.dv] [] (.tup [dint v.nodesN.1, dbool v.nodesN.2]) [] := by
  induction v using Val.ind with
  | h v ih =>
  refine t_in Tryz.func133 ?_
  intro X hP hgl hf hfn hn hR hids hfit
  have hl1 := Val.fit_args (hfit v.dv (by simp))
  have hl2 := Val.fit_list (hfit v.dv (by simp))
  rw [Val.count_eq] at hc
  refine t_rg0 ?_
  refine t_rg0 ?_
  refine t_rg0 ?_
  refine t_rg0 ?_
  repeat (first | refine W_seq ?_ | refine W_skip ?_ | refine W_inBlock ?_ | refine W_label ?_)
  refine W_cut [(.slot 5, .one (.v (dbool v.okB))), (.loc 1, .row ([.v (dint v.kind), .v (dint v.num), .v (.sl (ints v.list)), .v (.sl (v.args.map Val.cells))])), (.slot 1, .one (.loc 1 0))] ?_ ?_
  · intro hrest
    by_cases h1 : v.kind = 1
    · refine t_rg @h1 ?_
      refine t_yes ?_
      by_cases q1 : 0 ≤ v.num
      · by_cases q2 : v.list.length = 0
        · refine t_rg (j2 @h1 (j2 @q1 @q2)) ?_
          repeat (first | refine W_inBlock ?_ | refine W_skip ?_ | refine W_label ?_ | refine W_exit rfl ?_)
          refine W_sub [] (by simp [go_sem]) (by simp [go_sem, Val.okB, h1, q1, q2] <;> omega) (by simp [go_sem]) hrest
        · refine t_rg (j2 @h1 (j2 @q1 @q2)) ?_
          repeat (first | refine W_inBlock ?_ | refine W_skip ?_ | refine W_label ?_ | refine W_exit rfl ?_)
          refine W_sub [] (by simp [go_sem]) (by simp [go_sem, Val.okB, h1, q1, q2] <;> omega) (by simp [go_sem]) hrest
      · refine t_rg (j2 @h1 @q1) ?_
        repeat (first | refine W_inBlock ?_ | refine W_skip ?_ | refine W_label ?_ | refine W_exit rfl ?_)
        refine W_sub [] (by simp [go_sem]) (by simp [go_sem, Val.okB, h1, q1] <;> omega) (by simp [go_sem]) hrest
    by_cases h2 : v.kind = 2
    · refine t_rg @h2 ?_
      refine t_no ?_
      refine t_rg @h2 ?_
      refine t_yes ?_
      by_cases q1 : v.num = 0
      · refine t_a ?_
        first | refine W_reg [] fun K hK => ?_ | refine W_regd (by rw [hP]; exact mixed) [] fun K hK => ?_
        refine t_s (j2 @h2 @q1) ?_
        refine t_c trivial (contains_ok v.list) ?_
        by_cases q2 : v.list.any (fun n => decide (n < 0)) = true
        · simp [go_sem, hP, hn, q2]
          refine t_e ?_
          clear hK K
          repeat (first | refine W_inBlock ?_ | refine W_skip ?_ | refine W_label ?_ | refine W_exit rfl ?_)
          refine W_sub [] (by simp [go_sem]) (by simp [go_sem, Val.okB, h2, q1, q2] <;> omega) (by simp [go_sem]) hrest
        · simp only [Bool.not_eq_true] at q2
          simp [go_sem, hP, hn, q2]
          refine t_e ?_
          clear hK K
          repeat (first | refine W_inBlock ?_ | refine W_skip ?_ | refine W_label ?_ | refine W_exit rfl ?_)
          refine W_sub [] (by simp [go_sem]) (by simp [go_sem, Val.okB, h2, q1, q2] <;> omega) (by simp [go_sem]) hrest
      · refine t_rg (j2 @h2 @q1) ?_
        repeat (first | refine W_inBlock ?_ | refine W_skip ?_ | refine W_label ?_ | refine W_exit rfl ?_)
        refine W_sub [] (by simp [go_sem]) (by simp [go_sem, Val.okB, h2, q1] <;> omega) (by simp [go_sem]) hrest
    by_cases h3 : v.kind = 3
    · refine t_rg @h3 ?_
      refine t_no ?_
      refine t_rg @h3 ?_
      refine t_no ?_
      refine t_rg @h3 ?_
      refine t_yes ?_
      by_cases q1 : v.num = 0
      · by_cases q2 : v.list.length = 0
        · refine t_rg (j2 @h3 (j2 @q1 @q2)) ?_
          repeat (first | refine W_inBlock ?_ | refine W_skip ?_ | refine W_label ?_ | refine W_exit rfl ?_)
          refine W_sub [] (by simp [go_sem]) (by simp [go_sem, Val.okB, h3, q1, q2] <;> omega) (by simp [go_sem]) hrest
        · refine t_rg (j2 @h3 (j2 @q1 @q2)) ?_
          repeat (first | refine W_inBlock ?_ | refine W_skip ?_ | refine W_label ?_ | refine W_exit rfl ?_)
          refine W_sub [] (by simp [go_sem]) (by simp [go_sem, Val.okB, h3, q1, q2] <;> omega) (by simp [go_sem]) hrest
      · refine t_rg (j2 @h3 @q1) ?_
        repeat (first | refine W_inBlock ?_ | refine W_skip ?_ | refine W_label ?_ | refine W_exit rfl ?_)
        refine W_sub [] (by simp [go_sem]) (by simp [go_sem, Val.okB, h3, q1] <;> omega) (by simp [go_sem]) hrest
    by_cases h4 : v.kind = 4
    · refine t_rg @h4 ?_
      refine t_no ?_
      refine t_rg @h4 ?_
      refine t_no ?_
      refine t_rg @h4 ?_
      refine t_no ?_
      refine t_rg @h4 ?_
      refine t_yes ?_
      by_cases q1 : v.num = 0
      · by_cases q2 : v.list.length = 0
        · refine t_rg (j2 @h4 (j2 @q1 @q2)) ?_
          repeat (first | refine W_inBlock ?_ | refine W_skip ?_ | refine W_label ?_ | refine W_exit rfl ?_)
          refine W_sub [] (by simp [go_sem]) (by simp [go_sem, Val.okB, h4, q1, q2] <;> omega) (by simp [go_sem]) hrest
        · refine t_rg (j2 @h4 (j2 @q1 @q2)) ?_
          repeat (first | refine W_inBlock ?_ | refine W_skip ?_ | refine W_label ?_ | refine W_exit rfl ?_)
          refine W_sub [] (by simp [go_sem]) (by simp [go_sem, Val.okB, h4, q1, q2] <;> omega) (by simp [go_sem]) hrest
      · refine t_rg (j2 @h4 @q1) ?_
        repeat (first | refine W_inBlock ?_ | refine W_skip ?_ | refine W_label ?_ | refine W_exit rfl ?_)
        refine W_sub [] (by simp [go_sem]) (by simp [go_sem, Val.okB, h4, q1] <;> omega) (by simp [go_sem]) hrest
    refine t_rg @h1 ?_
    refine t_no ?_
    refine t_rg @h2 ?_
    refine t_no ?_
    refine t_rg @h3 ?_
    refine t_no ?_
    refine t_rg @h4 ?_
    refine t_no ?_
    repeat (first | refine W_inBlock ?_ | refine W_skip ?_ | refine W_label ?_ | refine W_exit rfl ?_)
    refine W_sub [] (by simp [go_sem]) (by simp [go_sem, Val.okB, h1, h2, h3, h4] <;> omega) (by simp [go_sem]) hrest
  · refine t_rg0 ?_
    refine t_rg0 ?_
    refine t_a ?_
    refine W_sub [] (by simp [go_sem]) (by simp [go_sem, Val.nodesN.nodesL] <;> omega) (by simp [go_sem]) (W_list (v.args) (fun done rest => [(.slot 84, .one (.v (dint done.length))), (.slot 83, .one (.v (dint v.args.length))), (.slot 82, .one (.v (.sl (v.args.map Val.cells)))), (.slot 6, .one (.v (dint (Val.nodesN.nodesL done (1, v.okB)).1))), (.slot 5, .one (.v (dbool (Val.nodesN.nodesL done (1, v.okB)).2)))]) ?_ ?_)
    · intro done x rest hL hg hnext
      have hlt : done.length < v.args.length := by rw [hL]; simp
      have hcx : Val.count.counts v.args = Val.count.counts done + (x.count + Val.count.counts rest) := by rw [hL, Val.counts_append]; rfl
      have hb := Val.nodesL_le (v := v) (fun a _ => Val.nodes_le a) done (fun a ha => by rw [hL]; simp [ha]) 1 v.okB
      have hx := Val.nodes_le x
      obtain ⟨n, ok, hp⟩ : ∃ n ok, Val.nodesN.nodesL done (1, v.okB) = (n, ok) := ⟨_, _, rfl⟩
      rw [hp] at hb
      simp only [Val.nodesL_append, hp] at hnext ⊢
      refine t_rg0 ?_
      refine t_yes ?_
      refine t_rg @hg ?_
      cases ok with
      | false =>
        refine t_rg0 ?_
        refine t_yes ?_
        refine t_rg0 ?_
        refine t_r ?_
        simp [go_sem, hP, hgl, hn, Val.nodesN_eq, hL, Val.nodesL_append, hp, Val.nodesL_no] <;> (try omega)
      | true =>
        refine t_rg0 ?_
        refine t_no ?_
        refine t_rg0 ?_
        refine t_a ?_
        first | refine W_reg [] fun K hK => ?_ | refine W_regd (by rw [hP]; exact mixed) [] fun K hK => ?_
        refine t_s0 ?_
        refine t_c trivial (ih x (List.mem_of_getElem? hg) (by omega)) ?_
        refine t_e ?_
        clear hK K
        refine t_rg0 ?_
        refine t_rg0 ?_
        repeat (first | refine W_inBlock ?_ | refine W_skip ?_ | refine W_label ?_ | refine W_exit rfl ?_)
        refine W_sub [] (by simp [go_sem]) (by simp [go_sem, Val.nodesN.nodesL] <;> omega) (by simp [go_sem]) hnext
    · refine t_rg0 ?_
      refine t_no ?_
      refine t_rg0 ?_
      refine t_r ?_
      simp [go_sem, hP, hgl, hn, Val.nodesN_eq] <;> (try omega)

theorem check_ok (v : Val) (hc : v.count ≤ 2147483648) : Con1 Tryz.prog gl 85 [v.dv] [] (dint (if v.nodesN.2 = true then if v.nodesN.1 > 64 then 4 else 0 else 2)) [] := by
  refine t_in Tryz.func85 ?_
  intro X hP hgl hf hfn hn hR hids hfit
  refine t_rg0 ?_
  refine t_a ?_
  first | refine W_reg [] fun K hK => ?_ | refine W_regd (by rw [hP]; exact mixed) [] fun K hK => ?_
  refine t_s0 ?_
  refine t_c trivial (nodes_ok v hc) ?_
  refine t_e ?_
  clear hK K
  obtain ⟨n, ok, hp⟩ : ∃ n ok, v.nodesN = (n, ok) := ⟨_, _, rfl⟩
  simp only [hp]
  cases ok with
  | false =>
    refine t_rg0 ?_
    refine t_yes ?_
    refine t_rg0 ?_
    refine t_r ?_
    simp [go_sem, hP, hgl, hn, hp] <;> (try omega)
  | true =>
    refine t_rg0 ?_
    refine t_no ?_
    by_cases h : 64 < n
    · refine t_rg @h ?_
      refine t_yes ?_
      refine t_rg0 ?_
      refine t_r ?_
      simp [go_sem, hP, hgl, hn, hp, h] <;> (try omega)
    · refine t_rg @h ?_
      refine t_no ?_
      refine t_rg0 ?_
      refine t_r ?_
      simp [go_sem, hP, hgl, hn, hp, h] <;> (try omega)
end Go.Proofs.YteoalfdaanlbjaaGreatDoor.Lift

namespace Go.Proofs.YteoalfdaanlbjaaGreatDoor.Lift
set_option linter.unusedSimpArgs false
set_option linter.unusedVariables false
set_option linter.unnecessarySimpa false
open Go
variable {gl : Globs}

theorem checkterm_ok (har : globOf gl 0 = some arEls) (t : Tm) (ht : t.tys) (hc : t.count ≤ 2147483648) : Con1 Tryz.prog gl 118 [t.dv] [] (.tup [dint (if t.checkN = 0 then t.count else 0 : Nat), dint t.checkN]) [] := by
  refine t_in Tryz.func118 ?_
  intro X hP hgl hf hfn hn hR hids hfit
  refine t_g0 ?_
  by_cases h : t.shape = true
  · refine t_a ?_
    first | refine W_reg [] fun K hK => ?_ | refine W_regd (by rw [hP]; exact mixed) [] fun K hK => ?_
    simp [go_sem, hP, hgl, hn, Tm.nodesR, h]
    repeat (refine ⟨by omega, ?_⟩)
    first | refine vcK_call hP hgl (termnodes_ok har t ht hc) (by simp [go_sem, hP, hgl, hn, Tm.nodesR, h]) rfl (by simp [go_sem]) (by simp) (by rw [hn]; exact Nat.le_of_ble_eq_true rfl) ?_ | refine vcdC_call (fun _ _ => vcd_sound) hP hgl (termnodes_ok har t ht hc) (by simp [go_sem, hP, hgl, hn, Tm.nodesR, h]) rfl (by simp [go_sem]) (by simp) (by rw [hn]; exact Nat.le_of_ble_eq_true rfl) ?_ | refine vcK_callG hP hgl (termnodes_ok har t ht hc) (by simp [go_sem, hP, hgl, hn, Tm.nodesR, h]) rfl (by simp [go_sem]) (by simp) (by rw [hn]; exact Nat.le_of_ble_eq_true rfl) (by simp [go_sem]; rfl) (by rw [hn]; exact Nat.le_of_ble_eq_true rfl) (by simp [go_sem]) ?_ | refine vcdC_callG (fun _ _ => vcd_sound) hP hgl (termnodes_ok har t ht hc) (by simp [go_sem, hP, hgl, hn, Tm.nodesR, h]) rfl (by simp [go_sem]) (by simp) (by rw [hn]; exact Nat.le_of_ble_eq_true rfl) (by simp [go_sem]; rfl) (by rw [hn]; exact Nat.le_of_ble_eq_true rfl) (by simp [go_sem]) ?_
    simp [go_sem, hP, hgl, hn, Tm.nodesR, h]
    refine t_e ?_
    clear hK K
    by_cases h2 : 4096 < t.count
    · refine t_g (j2 @h @h2) ?_
      refine t_r ?_
      simp [go_sem, hP, hgl, hn, Tm.checkN, h, h2] <;> (try omega)
    · refine t_g (j2 @h @h2) ?_
      refine t_r ?_
      simp [go_sem, hP, hgl, hn, Tm.checkN, h, h2] <;> (try omega)
  · refine t_a ?_
    first | refine W_reg [] fun K hK => ?_ | refine W_regd (by rw [hP]; exact mixed) [] fun K hK => ?_
    simp [go_sem, hP, hgl, hn, Tm.nodesR, h]
    repeat (refine ⟨by omega, ?_⟩)
    first | refine vcK_call hP hgl (termnodes_ok har t ht hc) (by simp [go_sem, hP, hgl, hn, Tm.nodesR, h]) rfl (by simp [go_sem]) (by simp) (by rw [hn]; exact Nat.le_of_ble_eq_true rfl) ?_ | refine vcdC_call (fun _ _ => vcd_sound) hP hgl (termnodes_ok har t ht hc) (by simp [go_sem, hP, hgl, hn, Tm.nodesR, h]) rfl (by simp [go_sem]) (by simp) (by rw [hn]; exact Nat.le_of_ble_eq_true rfl) ?_ | refine vcK_callG hP hgl (termnodes_ok har t ht hc) (by simp [go_sem, hP, hgl, hn, Tm.nodesR, h]) rfl (by simp [go_sem]) (by simp) (by rw [hn]; exact Nat.le_of_ble_eq_true rfl) (by simp [go_sem]; rfl) (by rw [hn]; exact Nat.le_of_ble_eq_true rfl) (by simp [go_sem]) ?_ | refine vcdC_callG (fun _ _ => vcd_sound) hP hgl (termnodes_ok har t ht hc) (by simp [go_sem, hP, hgl, hn, Tm.nodesR, h]) rfl (by simp [go_sem]) (by simp) (by rw [hn]; exact Nat.le_of_ble_eq_true rfl) (by simp [go_sem]; rfl) (by rw [hn]; exact Nat.le_of_ble_eq_true rfl) (by simp [go_sem]) ?_
    simp [go_sem, hP, hgl, hn, Tm.nodesR, h]
    refine t_e ?_
    clear hK K
    refine t_g @h ?_
    refine t_r ?_
    simp [go_sem, hP, hgl, hn, Tm.checkN, h] <;> (try omega)

theorem termscheck_ok (har : globOf gl 0 = some arEls) (t : Tm) (ht : t.tys) (hc : t.count ≤ 2147483648) : Con1 Tryz.prog gl 62 [t.dv] [] (dint t.checkN) [] := by
  refine t_in Tryz.func62 ?_
  intro X hP hgl hf hfn hn hR hids hfit
  refine t_g0 ?_
  refine t_c1 trivial (checkterm_ok har t ht hc) ?_
  refine t_g0 ?_
  refine t_r ?_
  simp [go_sem, hP, hgl, hn] <;> (try omega)

def zeroV : Val := Val.mk 0 0 [] []

end Go.Proofs.YteoalfdaanlbjaaGreatDoor.Lift

namespace Go.Proofs.YteoalfdaanlbjaaGreatDoor.Lift
set_option linter.unusedSimpArgs false
set_option linter.unusedVariables false
set_option linter.unnecessarySimpa false
open Go
variable {gl : Globs}

theorem nat_ok : Con1 Tryz.prog gl 197 [] [] (Ty.mk 1 []).dv [] := by
  refine t_in Tryz.func197 ?_
  intro X hP hgl hf hfn hn hR hids hfit
  refine t_g0 ?_
  refine t_r ?_
  simp [go_sem, hP, hgl, hn] <;> (try omega)
  all_goals exact t_f

/-- the type of a valid value -/
def Val.tyN : Val → Ty
  | .mk k _ _ a => if k = 2 then Ty.mk 2 [] else if k = 4 then Ty.mk 5 [] else if k = 3 then Ty.mk 3 (tys a) else Ty.mk 1 []
where
  tys : List Val → List Ty
    | [] => []
    | a :: r => a.tyN :: tys r
theorem Val.tys_map (l : List Val) : tyN.tys l = l.map Val.tyN := by
  induction l with
  | nil => rfl
  | cons a r ih => simp [tyN.tys, ih]
theorem Val.tyN_eq (v : Val) : v.tyN = if v.kind = 2 then Ty.mk 2 [] else if v.kind = 4 then Ty.mk 5 [] else if v.kind = 3 then Ty.mk 3 (v.args.map Val.tyN) else Ty.mk 1 [] := by
  cases v; rw [tyN, tys_map]; rfl

end Go.Proofs.YteoalfdaanlbjaaGreatDoor.Lift

namespace Go.Proofs.YteoalfdaanlbjaaGreatDoor.Lift
set_option linter.unusedSimpArgs false
set_option linter.unusedVariables false
set_option linter.unnecessarySimpa false
open Go
variable {gl : Globs}

/-- lengths of a list's numbers, until they are too many -/
def lenL : List Int → Int → Int × Bool
  | [], n => (n, false)
  | x :: r, n => if 4096 < n + (1 + sizeI x) then (n + (1 + sizeI x), true) else lenL r (n + (1 + sizeI x))

/-- no negative numbers -/
def Val.pos (v : Val) : Prop := 0 ≤ v.num ∧ ∀ n ∈ v.list, (0 : Int) ≤ n
def Val.allPos : Val → Prop
  | .mk k n l a => Val.pos (.mk k n l a) ∧ poss a
where
  poss : List Val → Prop
    | [] => True
    | a :: r => a.allPos ∧ poss r
theorem Val.poss_iff (l : List Val) : allPos.poss l ↔ ∀ a ∈ l, a.allPos := by
  induction l with
  | nil => simp [allPos.poss]
  | cons a r ih => simp [allPos.poss, ih]
theorem Val.allPos_eq (v : Val) : v.allPos ↔ v.pos ∧ ∀ a ∈ v.args, a.allPos := by
  cases v; simp only [allPos, poss_iff, args]

/-- the length ahead of the parts -/
def Val.head (v : Val) : Int := if v.kind = 1 then sizeI v.num else if v.kind = 2 then (lenL v.list 1).1 else 1
end Go.Proofs.YteoalfdaanlbjaaGreatDoor.Lift

namespace Go.Proofs.YteoalfdaanlbjaaGreatDoor.Lift
set_option linter.unusedSimpArgs false
set_option linter.unusedVariables false
set_option linter.unnecessarySimpa false
open Go
variable {gl : Globs}

/-- pairs have two parts -/
def Val.two : Val → Prop
  | .mk k _ _ a => (k = 3 → a.length = 2) ∧ twos a
where
  twos : List Val → Prop
    | [] => True
    | a :: r => a.two ∧ twos r
theorem Val.twos_iff (l : List Val) : two.twos l ↔ ∀ a ∈ l, a.two := by
  induction l with
  | nil => simp [two.twos]
  | cons a r ih => simp [two.twos, ih]
theorem Val.two_eq (v : Val) : v.two ↔ (v.kind = 3 → v.args.length = 2) ∧ ∀ a ∈ v.args, a.two := by
  cases v; simp only [two, twos_iff, kind, args]

end Go.Proofs.YteoalfdaanlbjaaGreatDoor.Lift

namespace Go.Proofs.YteoalfdaanlbjaaGreatDoor.Lift
set_option linter.unusedSimpArgs false
set_option linter.unusedVariables false
set_option linter.unnecessarySimpa false
open Go
variable {gl : Globs}

theorem Val.nodesL_ok {l : List Val} {n : Int} {ok : Bool} (h : (nodesN.nodesL l (n, ok)).2 = true) : ok = true ∧ ∀ a ∈ l, a.nodesN.2 = true := by
  induction l generalizing n ok with
  | nil => simp [nodesN.nodesL] at h; exact ⟨h, by simp⟩
  | cons a r ih =>
    cases ok with
    | false => rw [nodesL_no] at h; cases h
    | true =>
      simp only [nodesN.nodesL, if_true] at h
      obtain ⟨h1, h2⟩ := ih h
      exact ⟨rfl, by simpa using ⟨h1, h2⟩⟩

/-- a value that has a form has no negative numbers, and pairs of two parts -/
theorem Val.ok_all (v : Val) (h : v.nodesN.2 = true) : v.allPos ∧ v.two := by
  induction v using Val.ind with
  | h v ih =>
  rw [nodesN_eq] at h
  obtain ⟨h1, h2⟩ := nodesL_ok h
  rw [allPos_eq, two_eq]
  have hpos : v.pos ∧ (v.kind = 3 → v.args.length = 2) := by
    unfold okB at h1
    unfold pos
    split at h1
    · rename_i hk
      simp at h1
      simp [hk, h1]
    · split at h1
      · rename_i hk
        simp at h1
        simp [hk]
        obtain ⟨⟨q1, q2⟩, q3⟩ := h1
        rw [q1]
        exact ⟨by omega, fun n hn => by have := q2 n hn; omega⟩
      · split at h1
        · simp at h1; simp [h1]
        · split at h1
          · rename_i hk; simp at h1; simp [h1, hk]
          · cases h1
  exact ⟨⟨hpos.1, fun a ha => (ih a ha (h2 a ha)).1⟩, hpos.2, fun a ha => (ih a ha (h2 a ha)).2⟩

def zeroTm : Tm := Tm.mk 0 0 (Ty.mk 0 []) []

def Val.checkN (v : Val) : Int := if v.nodesN.2 = true then if v.nodesN.1 > 64 then 4 else 0 else 2

end Go.Proofs.YteoalfdaanlbjaaGreatDoor.Lift

/-
  Plain facts: the types of terms.
-/
namespace Go.Proofs.YteoalfdaanlbjaaGreatDoor.Lift
set_option linter.unusedSimpArgs false
set_option linter.unusedVariables false
set_option linter.unnecessarySimpa false
open Go

def zeroTy : Ty := Ty.mk 0 []
def Ty.arg (t : Ty) (i : Nat) : Ty := t.args.getD i zeroTy
def Ty.ok (t : Ty) : Prop := t.shape = true ∧ t.count ≤ 64

theorem Ty.checkN_iff (t : Ty) : t.checkN = 0 ↔ t.ok := by
  unfold Ty.checkN Ty.ok
  split
  · split
    · rename_i h; simp; omega
    · rename_i h; simp; constructor <;> first | assumption | omega
  · rename_i h; simp [h]

def okN (t : Ty) : Ty × Int := if t.checkN = 0 then (t, 0) else (zeroTy, 4)

theorem okN_ok (t : Ty) (h : (okN t).2 = 0) : (okN t).1.ok ∧ okN t = (t, 0) := by
  unfold okN at h ⊢
  split
  · rename_i h2; exact ⟨(Ty.checkN_iff t).1 h2, rfl⟩
  · rename_i h2; rw [if_neg h2] at h; cases h

/-- the type of a node, of the types of its parts -/
def ruleN (k : Int) (ty : Ty) (l : List Ty) : Ty × Int :=
  if k = 2 then okN (Ty.mk 4 [ty, l.getD 0 zeroTy])
  else if k = 3 then if (l.getD 0 zeroTy).kind = 4 ∧ ((l.getD 0 zeroTy).arg 0).same (l.getD 1 zeroTy) = true then ((l.getD 0 zeroTy).arg 1, 0) else (zeroTy, 7)
  else if k = 4 then (Ty.mk 1 [], 0)
  else if k = 5 then if (l.getD 0 zeroTy).same (Ty.mk 1 []) = true then (Ty.mk 1 [], 0) else (zeroTy, 7)
  else if k = 6 then if (l.getD 0 zeroTy).same ty = true ∧ (l.getD 1 zeroTy).same (Ty.mk 4 [Ty.mk 1 [], Ty.mk 4 [ty, ty]]) = true ∧ (l.getD 2 zeroTy).same (Ty.mk 1 []) = true then (ty, 0) else (zeroTy, 7)
  else if k = 7 then (Ty.mk 2 [], 0)
  else if k = 8 then if (l.getD 0 zeroTy).same (Ty.mk 1 []) = true ∧ (l.getD 1 zeroTy).same (Ty.mk 2 []) = true then (Ty.mk 2 [], 0) else (zeroTy, 7)
  else if k = 9 then if (l.getD 0 zeroTy).same ty = true ∧ (l.getD 1 zeroTy).same (Ty.mk 4 [Ty.mk 1 [], Ty.mk 4 [Ty.mk 2 [], Ty.mk 4 [ty, ty]]]) = true ∧ (l.getD 2 zeroTy).same (Ty.mk 2 []) = true then (ty, 0) else (zeroTy, 7)
  else if k = 10 then okN (Ty.mk 3 [l.getD 0 zeroTy, l.getD 1 zeroTy])
  else if k = 11 then if (l.getD 0 zeroTy).kind = 3 then ((l.getD 0 zeroTy).arg 0, 0) else (zeroTy, 7)
  else if k = 12 then if (l.getD 0 zeroTy).kind = 3 then ((l.getD 0 zeroTy).arg 1, 0) else (zeroTy, 7)
  else (Ty.mk 5 [], 0)

namespace Tm
set_option linter.unusedSimpArgs false
set_option linter.unusedVariables false
set_option linter.unnecessarySimpa false
def inferN : Tm → List Ty → Ty × Int
  | .mk k i ty a, g =>
    if k = 1 then if (g.length : Int) ≤ i then (zeroTy, 6) else (g.getD (g.length - 1 - i.toNat) zeroTy, 0)
    else if (infers a (if k = 2 then g ++ [ty] else g)).2 = 0 then ruleN k ty (infers a (if k = 2 then g ++ [ty] else g)).1
    else (zeroTy, (infers a (if k = 2 then g ++ [ty] else g)).2)
where
  infers : List Tm → List Ty → List Ty × Int
    | [], _ => ([], 0)
    | a :: r, g => if (a.inferN g).2 = 0 then if (infers r g).2 = 0 then ((a.inferN g).1 :: (infers r g).1, 0) else ([], (infers r g).2) else ([], (a.inferN g).2)

theorem inferN_eq (t : Tm) (g : List Ty) : t.inferN g =
    if t.kind = 1 then if (g.length : Int) ≤ t.index then (zeroTy, 6) else (g.getD (g.length - 1 - t.index.toNat) zeroTy, 0)
    else if (inferN.infers t.args (if t.kind = 2 then g ++ [t.type] else g)).2 = 0 then ruleN t.kind t.type (inferN.infers t.args (if t.kind = 2 then g ++ [t.type] else g)).1
    else (zeroTy, (inferN.infers t.args (if t.kind = 2 then g ++ [t.type] else g)).2) := by
  cases t; rw [inferN]; rfl

theorem infers_snoc (l : List Tm) (x : Tm) (g : List Ty) (h : (inferN.infers l g).2 = 0) (hx : (x.inferN g).2 = 0) :
    inferN.infers (l ++ [x]) g = ((inferN.infers l g).1 ++ [(x.inferN g).1], 0) := by
  induction l with
  | nil => simp [inferN.infers, hx]
  | cons a r ih =>
    simp only [inferN.infers] at h
    by_cases ha : (a.inferN g).2 = 0
    · by_cases hr : (inferN.infers r g).2 = 0
      · simp [inferN.infers, ha, hr, ih hr]
      · simp [ha, hr] at h
    · simp [ha] at h

theorem infers_stop (l : List Tm) (x : Tm) (m : List Tm) (g : List Ty) (h : (inferN.infers l g).2 = 0) (hx : ¬ (x.inferN g).2 = 0) :
    inferN.infers (l ++ x :: m) g = ([], (x.inferN g).2) := by
  induction l with
  | nil => simp [inferN.infers, hx]
  | cons a r ih =>
    simp only [inferN.infers] at h
    by_cases ha : (a.inferN g).2 = 0
    · by_cases hr : (inferN.infers r g).2 = 0
      · simp [inferN.infers, ha, ih hr, hx]
      · simp [ha, hr] at h
    · simp [ha] at h

theorem infers_all (l : List Tm) (g : List Ty) (h : (inferN.infers l g).2 = 0) :
    (inferN.infers l g).1.length = l.length ∧ ∀ (i : Nat) (x : Tm), l[i]? = some x → (x.inferN g).2 = 0 ∧ (inferN.infers l g).1[i]? = some (x.inferN g).1 := by
  induction l with
  | nil => simp [inferN.infers]
  | cons a r ih =>
    simp only [inferN.infers] at h ⊢
    by_cases ha : (a.inferN g).2 = 0
    · by_cases hr : (inferN.infers r g).2 = 0
      · simp only [ha, hr, if_true]
        obtain ⟨h1, h2⟩ := ih hr
        refine ⟨by simp [h1], ?_⟩
        intro i x hx
        cases i with
        | zero => simp at hx; subst hx; exact ⟨ha, by simp⟩
        | succ i => simp at hx; simpa using h2 i x hx
      · simp [ha, hr] at h
    · simp [ha] at h
end Tm

theorem Ty.ok_arg {t : Ty} (h : t.ok) {a : Ty} (ha : a ∈ t.args) : a.ok := by
  obtain ⟨h1, h2⟩ := h
  rw [Ty.shape_eq, Bool.and_eq_true, Ty.shapes_iff] at h1
  have := Ty.count_mem ha
  rw [Ty.count_eq] at h2
  exact ⟨h1.2 a ha, by omega⟩

theorem Ty.ok_two {t : Ty} (h : t.ok) (hk : t.kind = 3 ∨ t.kind = 4) : t.args.length = 2 := by
  obtain ⟨h1, h2⟩ := h
  rw [Ty.shape_eq, Bool.and_eq_true] at h1
  rcases hk with hk | hk <;> simpa [tyKind, hk] using h1.1

theorem Ty.ok_args {t : Ty} (h : t.ok) (hk : t.kind = 3 ∨ t.kind = 4) : ∃ a b, t.args = [a, b] ∧ a.ok ∧ b.ok ∧ t.arg 0 = a ∧ t.arg 1 = b := by
  have h2 := Ty.ok_two h hk
  match ha : t.args, h2 with
  | [a, b], _ => exact ⟨a, b, rfl, Ty.ok_arg h (by rw [ha]; simp), Ty.ok_arg h (by rw [ha]; simp), by simp [Ty.arg, ha], by simp [Ty.arg, ha]⟩

theorem ok_nat : (Ty.mk 1 []).ok := ⟨rfl, by decide⟩
theorem ok_list : (Ty.mk 2 []).ok := ⟨rfl, by decide⟩
theorem ok_unit : (Ty.mk 5 []).ok := ⟨rfl, by decide⟩

/-- what a valid term says about its node -/
theorem Tm.shape_node {t : Tm} (h : t.shape = true) : ((t.args.length : Int) = arityI t.kind) ∧ 0 ≤ t.index ∧ (t.kind = 1 ∨ t.index = 0) ∧ (if t.kind = 2 ∨ t.kind = 6 ∨ t.kind = 9 then t.type.ok else t.type.zero = true) ∧ ∀ a ∈ t.args, a.shape = true := by
  rw [Tm.shape_eq, Bool.and_eq_true, Tm.shapes_iff] at h
  obtain ⟨h1, h2⟩ := h
  simp only [tmKind, Bool.and_eq_true, Bool.or_eq_true, decide_eq_true_eq, tyOfKind] at h1
  refine ⟨h1.1.1.1, h1.1.1.2, h1.1.2, ?_, h2⟩
  by_cases hk : t.kind = 2 ∨ t.kind = 6 ∨ t.kind = 9
  · rw [if_pos hk] at h1 ⊢; exact (Ty.checkN_iff _).1 (by simpa using h1.2)
  · rw [if_neg hk] at h1 ⊢; exact h1.2

theorem Tm.inferN_ok (t : Tm) (g : List Ty) (ht : t.shape = true) (hg : ∀ x ∈ g, x.ok) (h : (t.inferN g).2 = 0) : (t.inferN g).1.ok := by
  induction t using Tm.ind generalizing g with
  | h t ih =>
  obtain ⟨ha, hi, hv, hty, hs⟩ := Tm.shape_node ht
  rw [inferN_eq] at h ⊢
  by_cases h1 : t.kind = 1
  · rw [if_pos h1] at h ⊢
    by_cases h2 : (g.length : Int) ≤ t.index
    · rw [if_pos h2] at h; cases h
    · rw [if_neg h2]
      have : g.length - 1 - t.index.toNat < g.length := by omega
      simp only [List.getD_eq_getElem?_getD, List.getElem?_eq_getElem this, Option.getD_some]
      exact hg _ (List.getElem_mem _)
  · rw [if_neg h1] at h ⊢
    generalize hge : (if t.kind = 2 then g ++ [t.type] else g) = g' at h ⊢
    have hg' : ∀ x ∈ g', x.ok := by
      subst hge
      split
      · rename_i h2
        intro x hx
        rcases List.mem_append.1 hx with hx | hx
        · exact hg x hx
        · rw [List.mem_singleton.1 hx]; rwa [if_pos (.inl h2)] at hty
      · exact hg
    by_cases h2 : (inferN.infers t.args g').2 = 0
    · rw [if_pos h2] at h ⊢
      obtain ⟨hl, hx⟩ := infers_all _ _ h2
      have key : ∀ i : Nat, i < t.args.length → ((inferN.infers t.args g').1.getD i zeroTy).ok := by
        intro i hi
        obtain ⟨x1, x2⟩ := hx i t.args[i] (List.getElem?_eq_getElem hi)
        rw [List.getD_eq_getElem?_getD, x2, Option.getD_some]
        exact ih _ (List.getElem_mem _) g' (hs _ (List.getElem_mem _)) hg' x1
      generalize (inferN.infers t.args g').1 = l at h key ⊢
      unfold ruleN at h ⊢
      by_cases hk : t.kind = 2
      · rw [if_pos hk] at h ⊢
        exact (okN_ok _ h).1
      rw [if_neg hk] at h ⊢
      by_cases hk : t.kind = 3
      · rw [if_pos hk] at h ⊢
        by_cases hx : (l.getD 0 zeroTy).kind = 4 ∧ ((l.getD 0 zeroTy).arg 0).same (l.getD 1 zeroTy) = true
        · rw [if_pos hx] at h ⊢
          obtain ⟨a, b, e, oa, ob, e0, e1⟩ := Ty.ok_args (key 0 (by rw [hk] at ha; simp [arityI] at ha; omega)) (.inr hx.1)
          rw [e1]; exact ob
        · rw [if_neg hx] at h; cases h
      rw [if_neg hk] at h ⊢
      by_cases hk : t.kind = 4
      · rw [if_pos hk] at h ⊢
        exact ok_nat
      rw [if_neg hk] at h ⊢
      by_cases hk : t.kind = 5
      · rw [if_pos hk] at h ⊢
        by_cases hx : (l.getD 0 zeroTy).same (Ty.mk 1 []) = true
        · rw [if_pos hx] at h ⊢
          exact ok_nat
        · rw [if_neg hx] at h; cases h
      rw [if_neg hk] at h ⊢
      by_cases hk : t.kind = 6
      · rw [if_pos hk] at h ⊢
        by_cases hx : (l.getD 0 zeroTy).same t.type = true ∧ (l.getD 1 zeroTy).same (Ty.mk 4 [Ty.mk 1 [], Ty.mk 4 [t.type, t.type]]) = true ∧ (l.getD 2 zeroTy).same (Ty.mk 1 []) = true
        · rw [if_pos hx] at h ⊢
          rwa [if_pos (.inr (.inl hk))] at hty
        · rw [if_neg hx] at h; cases h
      rw [if_neg hk] at h ⊢
      by_cases hk : t.kind = 7
      · rw [if_pos hk] at h ⊢
        exact ok_list
      rw [if_neg hk] at h ⊢
      by_cases hk : t.kind = 8
      · rw [if_pos hk] at h ⊢
        by_cases hx : (l.getD 0 zeroTy).same (Ty.mk 1 []) = true ∧ (l.getD 1 zeroTy).same (Ty.mk 2 []) = true
        · rw [if_pos hx] at h ⊢
          exact ok_list
        · rw [if_neg hx] at h; cases h
      rw [if_neg hk] at h ⊢
      by_cases hk : t.kind = 9
      · rw [if_pos hk] at h ⊢
        by_cases hx : (l.getD 0 zeroTy).same t.type = true ∧ (l.getD 1 zeroTy).same (Ty.mk 4 [Ty.mk 1 [], Ty.mk 4 [Ty.mk 2 [], Ty.mk 4 [t.type, t.type]]]) = true ∧ (l.getD 2 zeroTy).same (Ty.mk 2 []) = true
        · rw [if_pos hx] at h ⊢
          rwa [if_pos (.inr (.inr hk))] at hty
        · rw [if_neg hx] at h; cases h
      rw [if_neg hk] at h ⊢
      by_cases hk : t.kind = 10
      · rw [if_pos hk] at h ⊢
        exact (okN_ok _ h).1
      rw [if_neg hk] at h ⊢
      by_cases hk : t.kind = 11
      · rw [if_pos hk] at h ⊢
        by_cases hx : (l.getD 0 zeroTy).kind = 3
        · rw [if_pos hx] at h ⊢
          obtain ⟨a, b, e, oa, ob, e0, e1⟩ := Ty.ok_args (key 0 (by rw [hk] at ha; simp [arityI] at ha; omega)) (.inl hx)
          rw [e0]; exact oa
        · rw [if_neg hx] at h; cases h
      rw [if_neg hk] at h ⊢
      by_cases hk : t.kind = 12
      · rw [if_pos hk] at h ⊢
        by_cases hx : (l.getD 0 zeroTy).kind = 3
        · rw [if_pos hx] at h ⊢
          obtain ⟨a, b, e, oa, ob, e0, e1⟩ := Ty.ok_args (key 0 (by rw [hk] at ha; simp [arityI] at ha; omega)) (.inl hx)
          rw [e1]; exact ob
        · rw [if_neg hx] at h; cases h
      rw [if_neg hk] at h ⊢
      exact ok_unit
    · rw [if_neg h2] at h
      exact absurd h h2
end Go.Proofs.YteoalfdaanlbjaaGreatDoor.Lift

namespace Go.Proofs.YteoalfdaanlbjaaGreatDoor.Lift
set_option linter.unusedSimpArgs false
set_option linter.unusedVariables false
set_option linter.unnecessarySimpa false
open Go
variable {gl : Globs}

def Val.typeE (v : Val) : Ty × Int := if v.checkN ≠ 0 then (zeroTy, v.checkN) else (v.tyN, 0)

end Go.Proofs.YteoalfdaanlbjaaGreatDoor.Lift

namespace Go.Proofs.YteoalfdaanlbjaaGreatDoor.Lift
set_option linter.unusedSimpArgs false
set_option linter.unusedVariables false
set_option linter.unnecessarySimpa false
open Go
variable {gl : Globs}

theorem ref01_fun_ok (a b : Ty) : Con1 Tryz.prog gl 61 [a.dv, b.dv] [] (Ty.mk 4 [a, b]).dv [] := by
  refine t_in Tryz.func61 ?_
  intro X hP hgl hf hfn hn hR hids hfit
  refine t_g0 ?_
  refine t_c2 trivial (ref01_copy_ok a) (ref01_copy_ok b) ?_
  refine t_r ?_
  simp [go_sem, hP, hgl, hn] <;> (try omega)
  all_goals exact t_f

theorem ref02_ok_ok (t : Ty) (hc : t.count ≤ 1073741824) : Con1 Tryz.prog gl 162 [t.dv] [] (.tup [(okN t).1.dv, dint (okN t).2]) [] := by
  refine t_in Tryz.func162 ?_
  intro X hP hgl hf hfn hn hR hids hfit
  refine t_g0 ?_
  refine t_c1 trivial (ref01_check_ok t (by omega)) ?_
  by_cases h : t.checkN = 0
  · refine t_g @h ?_
    refine t_r ?_
    simp [go_sem, hP, hgl, hn, okN, h] <;> (try omega)
    all_goals exact t_f
  · refine t_g @h ?_
    refine t_r ?_
    simp [go_sem, hP, hgl, hn, okN, h, zeroTy] <;> (try omega)
    all_goals exact t_f

theorem count_two (k : Int) (a b : Ty) : (Ty.mk k [a, b]).count = 1 + (a.count + (b.count + 0)) := rfl

theorem take_tys (g : List Ty) : List.take g.length (List.map Ty.cells g) = List.map Ty.cells g := by rw [List.take_of_length_le]; simp

theorem nat_v : (Ty.mk 1 []).dv = .agg [dint 1, .sl []] := rfl
theorem list_v : (Ty.mk 2 []).dv = .agg [dint 2, .sl []] := rfl

set_option maxHeartbeats 4000000 in
theorem infer_ok (t : Tm) (g : List Ty) (hgt : g.length + t.count ≤ 2147483648) (ht : t.shape = true) (hg : ∀ x ∈ g, x.ok) : Con1 Tryz.prog gl 130 [.sl (g.map Ty.cells), t.dv] [] (.tup [(t.inferN g).1.dv, dint (t.inferN g).2]) [] := by
  induction t using Tm.ind generalizing g with
  | h t ih =>
  obtain ⟨ha, hi, hv, hty, hs⟩ := Tm.shape_node ht
  refine t_in Tryz.func130 ?_
  intro X hP hgl hf hfn hn hR hids hfit
  have hlg := sl_len (hfit (.sl (g.map Ty.cells)) (by simp))
  simp at hlg
  by_cases h1 : t.kind = 1
  · by_cases h2 : (g.length : Int) ≤ t.index
    · refine t_g (j2 @h1 @h2) ?_
      refine t_r ?_
      simp [go_sem, hP, hgl, hn, Tm.inferN_eq t, h1, h2, zeroTy] <;> (try omega)
      all_goals exact t_f
    · have hlt : g.length - 1 - t.index.toNat < g.length := by omega
      have hx := List.getElem?_eq_getElem hlt
      generalize hge : g[g.length - 1 - t.index.toNat] = x at hx
      have hx' : g[(g.length - 1 - t.index : Int).toNat]? = some x := by rw [← hx]; congr 1; omega
      refine t_g (j2 @h1 @h2) ?_
      refine t_c1 @hx' (ref01_copy_ok x) ?_
      refine t_r ?_
      simp [go_sem, hP, hgl, hn, Tm.inferN_eq t, h1, h2, hx] <;> (try omega)
      all_goals exact t_f
  by_cases hk2 : t.kind = 2
  · rw [hk2] at ha
    obtain ⟨b, hb⟩ : ∃ b, t.args = [b] := by
      match hh : t.args, ha with
      | [b], _ => exact ⟨b, rfl⟩
    have hbm : b ∈ t.args := by rw [hb]; simp
    rw [if_pos (.inl hk2)] at hty
    have hg' : ∀ x ∈ g ++ [t.type], x.ok := by
      intro x hx
      rcases List.mem_append.1 hx with hx | hx
      · exact hg x hx
      · rw [List.mem_singleton.1 hx]; exact hty
    have hi' := Tm.inferN_ok b (g ++ [t.type]) (hs b hbm) hg'
    have hcb1 : t.count = 1 + (b.count + 0) := by rw [Tm.count_eq, hb]; rfl
    have hcb2 := Tm.count_pos b
    have hgl1 : g.length ≤ 2147483647 := by omega
    refine t_g @hk2 ?_
    refine t_c1 (j2 @hk2 (j2 @hb (j2 @take_tys (j2 (Ty.cells_eq t.type) @Ty.length_cells)))) (ih b hbm (g ++ [t.type]) (by simp; omega) (hs b hbm) hg') ?_
    by_cases he : (b.inferN (g ++ [t.type])).2 = 0
    · have hcb := hty.2
      have hcc := (hi' he).2
      refine t_g @he ?_
      refine t_c2 trivial (ref01_fun_ok t.type (b.inferN (g ++ [t.type])).1) (ref02_ok_ok (Ty.mk 4 [t.type, (b.inferN (g ++ [t.type])).1]) (by rw [count_two]; omega)) ?_
      refine t_r ?_
      simp [go_sem, hP, hgl, hn, Tm.inferN_eq t, hk2, hb, Tm.inferN.infers, he, ruleN] <;> (try omega)
      all_goals exact t_f
    · refine t_g @he ?_
      refine t_r ?_
      simp [go_sem, hP, hgl, hn, Tm.inferN_eq t, hk2, hb, Tm.inferN.infers, he, zeroTy] <;> (try omega)
      all_goals exact t_f
  have hlen := Tm.fit_len (hfit t.dv (by simp))
  refine t_g (j2 @h1 @hk2) ?_
  refine t_a ?_
  refine W_sub [(1008, 0)] (by simp [go_sem]) (by simp [go_sem, Tm.inferN.infers] <;> omega) (by simp [go_sem]) (W_listI (t.args) (fun done => (Tm.inferN.infers done g).2 = 0) (fun done rest => [(.slot 0, .one (.v (.sl (g.map Ty.cells)))), (.slot 69, .one (.v (dint done.length))), (.slot 68, .one (.v (dint t.args.length))), (.slot 67, .one (.v (.sl (t.args.map Tm.cells)))), (.slot 8, .one (.own 1008 ((Tm.inferN.infers done g).1.map Ty.cells))), (.tok 1008, .tk 2 (Tm.inferN.infers done g).1.length), (.loc 4, .row ([.v (dint 0), .own 0 []])), (.slot 4, .one (.loc 4 0)), (.loc 3, .row ([.v (dint t.kind), .v (dint t.index), .v (dint t.type.kind), .v (.sl (t.type.args.map Ty.cells)), .v (.sl (t.args.map Tm.cells))])), (.slot 3, .one (.loc 3 0))]) (rfl) ?_ ?_)
  · intro done x rest hL hg0 hI hnext
    have hlt : done.length < t.args.length := by rw [hL]; simp
    have hxm := List.mem_of_getElem? hg0
    have hcx := Tm.count_mem hxm
    have hct := Tm.count_eq t
    have hix := Tm.inferN_ok x g (hs x hxm) hg
    refine t_rg0 ?_
    refine t_yes ?_
    refine t_g @hg0 ?_
    refine t_c1 @hg0 (ih x hxm g (by omega) (hs x hxm) hg) ?_
    by_cases he : (x.inferN g).2 = 0
    · have hsn := Tm.infers_snoc done x g hI he
      have hdl := (Tm.infers_all done g hI).1
      refine t_gt (wr [(1008, 86)]) (j2 @hsn (j2 @hdl (Ty.cells_eq (x.inferN g).1))) (j2 @he @hdl) (hnext (by rw [hsn]))
    · have hst := Tm.infers_stop done x rest g hI he
      rw [← hL] at hst
      refine t_g @he ?_
      refine t_r ?_
      simp [go_sem, hP, hgl, hn, Tm.inferN_eq t, h1, hk2, hst, he, zeroTy] <;> (try omega)
      all_goals exact t_f
  · intro hI
    have hN : t.inferN g = ruleN t.kind t.type (Tm.inferN.infers t.args g).1 := by rw [Tm.inferN_eq t]; simp [h1, hk2, hI]
    have hdl := (Tm.infers_all t.args g hI).1
    have hdo : ∀ a ∈ (Tm.inferN.infers t.args g).1, a.ok := by
      intro a ha
      obtain ⟨i, hi, rfl⟩ := List.mem_iff_getElem.1 ha
      obtain ⟨x1, x2⟩ := (Tm.infers_all t.args g hI).2 i t.args[i] (List.getElem?_eq_getElem (by omega))
      rw [List.getElem?_eq_getElem hi] at x2
      rw [Option.some.inj x2]
      exact Tm.inferN_ok _ g (hs _ (List.getElem_mem _)) hg x1
    obtain ⟨ds, hds⟩ : ∃ ds, ds = (Tm.inferN.infers t.args g).1 := ⟨_, rfl⟩
    rw [← hds] at hN hdl hdo ⊢
    rw [← hdl] at ha
    have h1l : t.kind = 5 ∨ t.kind = 11 ∨ t.kind = 12 → ∃ x, ds = [x] := by
      intro hk
      have : ds.length = 1 := by rcases hk with hk | hk | hk <;> simp [hk, arityI] at ha <;> omega
      exact List.length_eq_one_iff.1 this
    have h2l : t.kind = 3 ∨ t.kind = 8 ∨ t.kind = 10 → ∃ x y, ds = [x, y] := by
      intro hk
      have : ds.length = 2 := by rcases hk with hk | hk | hk <;> simp [hk, arityI] at ha <;> omega
      match ds, this with
      | [x, y], _ => exact ⟨x, y, rfl⟩
    have h3l : t.kind = 6 ∨ t.kind = 9 → ∃ x y z, ds = [x, y, z] := by
      intro hk
      have : ds.length = 3 := by rcases hk with hk | hk <;> simp [hk, arityI] at ha <;> omega
      match ds, this with
      | [x, y, z], _ => exact ⟨x, y, z, rfl⟩
    refine t_rg0 ?_
    refine t_no ?_
    refine t_c2 trivial ref01_nat_ok ref01_list_ok ?_
    by_cases h3 : t.kind = 3
    · obtain ⟨x, y, rfl⟩ := h2l (.inl h3)
      by_cases hx : x.kind = 4
      · obtain ⟨p, q, hp, op, oq, e0, e1⟩ := Ty.ok_args (hdo x (by simp)) (.inr hx)
        refine t_g @h3 ?_
        refine t_c1 (j2 @h3 (j2 @hx @hp)) (ref01_same_ok p y) ?_
        by_cases hs : p.same y = true
        · refine t_g (j2 @h3 (j2 @hx (j2 @hp @hs))) ?_
          refine t_r ?_
          simp [go_sem, hP, hgl, hn, hN, ruleN, h3, hx, e0, e1, hs] <;> (try omega)
          all_goals exact t_f
        · refine t_g (j2 @h3 (j2 @hx (j2 @hp @hs))) ?_
          refine t_r ?_
          simp [go_sem, hP, hgl, hn, hN, ruleN, h3, hx, e0, e1, hs, zeroTy] <;> (try omega)
          all_goals exact t_f
      · refine t_g (j2 @h3 @hx) ?_
        refine t_r ?_
        simp [go_sem, hP, hgl, hn, hN, ruleN, h3, hx, zeroTy] <;> (try omega)
        all_goals exact t_f
    by_cases h4 : t.kind = 4
    · refine t_g @h4 ?_
      refine t_r ?_
      simp [go_sem, hP, hgl, hn, hN, ruleN, h4] <;> (try omega)
      all_goals exact t_f
    by_cases h5 : t.kind = 5
    · obtain ⟨x, rfl⟩ := h1l (.inl h5)
      refine t_g @h5 ?_
      refine t_c1 (j2 @h5 (j2 @nat_v @list_v)) (ref01_same_ok x (Ty.mk 1 [])) ?_
      by_cases hs : x.same (Ty.mk 1 []) = true
      · refine t_g (j2 @h5 @hs) ?_
        refine t_r ?_
        simp [go_sem, hP, hgl, hn, hN, ruleN, h5, hs] <;> (try omega)
        all_goals exact t_f
      · refine t_g (j2 @h5 @hs) ?_
        refine t_r ?_
        simp [go_sem, hP, hgl, hn, hN, ruleN, h5, hs, zeroTy] <;> (try omega)
        all_goals exact t_f
    by_cases h6 : t.kind = 6
    · obtain ⟨x, y, z, rfl⟩ := h3l (.inl h6)
      rw [if_pos (by simp [h6])] at hty
      by_cases hs1 : x.same t.type = true
      · by_cases hs2 : y.same (Ty.mk 4 [Ty.mk 1 [], Ty.mk 4 [t.type, t.type]]) = true
        · refine t_g @h6 ?_
          refine t_c5 (j2 @h6 (j2 @hs1 (j2 @hs2 (j2 @nat_v @list_v)))) (ref01_same_ok x t.type) (ref01_fun_ok t.type t.type) (ref01_fun_ok (Ty.mk 1 []) (Ty.mk 4 [t.type, t.type])) (ref01_same_ok y (Ty.mk 4 [Ty.mk 1 [], Ty.mk 4 [t.type, t.type]])) (ref01_same_ok z (Ty.mk 1 [])) ?_
          by_cases hs3 : z.same (Ty.mk 1 []) = true
          · refine t_g (j2 @h6 (j2 @hs1 (j2 @hs2 @hs3))) ?_
            refine t_c1 @h6 (ref01_copy_ok t.type) ?_
            refine t_r ?_
            simp [go_sem, hP, hgl, hn, hN, ruleN, h6, hs1, hs2, hs3] <;> (try omega)
            all_goals exact t_f
          · refine t_g (j2 @h6 (j2 @hs1 (j2 @hs2 @hs3))) ?_
            refine t_r ?_
            simp [go_sem, hP, hgl, hn, hN, ruleN, h6, hs1, hs2, hs3, zeroTy] <;> (try omega)
            all_goals exact t_f
        · refine t_g @h6 ?_
          refine t_c4 (j2 @h6 (j2 @hs1 (j2 @hs2 (j2 @nat_v @list_v)))) (ref01_same_ok x t.type) (ref01_fun_ok t.type t.type) (ref01_fun_ok (Ty.mk 1 []) (Ty.mk 4 [t.type, t.type])) (ref01_same_ok y (Ty.mk 4 [Ty.mk 1 [], Ty.mk 4 [t.type, t.type]])) ?_
          refine t_g (j2 @h6 (j2 @hs1 @hs2)) ?_
          refine t_r ?_
          simp [go_sem, hP, hgl, hn, hN, ruleN, h6, hs1, hs2, zeroTy] <;> (try omega)
          all_goals exact t_f
      · refine t_g @h6 ?_
        refine t_c1 (j2 @h6 @hs1) (ref01_same_ok x t.type) ?_
        refine t_g (j2 @h6 @hs1) ?_
        refine t_r ?_
        simp [go_sem, hP, hgl, hn, hN, ruleN, h6, hs1, zeroTy] <;> (try omega)
        all_goals exact t_f
    by_cases h7 : t.kind = 7
    · refine t_g @h7 ?_
      refine t_r ?_
      simp [go_sem, hP, hgl, hn, hN, ruleN, h7] <;> (try omega)
      all_goals exact t_f
    by_cases h8 : t.kind = 8
    · obtain ⟨x, y, rfl⟩ := h2l (.inr (.inl h8))
      by_cases hs1 : x.same (Ty.mk 1 []) = true
      · refine t_g @h8 ?_
        refine t_c2 (j2 @h8 (j2 @hs1 (j2 @nat_v @list_v))) (ref01_same_ok x (Ty.mk 1 [])) (ref01_same_ok y (Ty.mk 2 [])) ?_
        by_cases hs2 : y.same (Ty.mk 2 []) = true
        · refine t_g (j2 @h8 (j2 @hs1 @hs2)) ?_
          refine t_r ?_
          simp [go_sem, hP, hgl, hn, hN, ruleN, h8, hs1, hs2] <;> (try omega)
          all_goals exact t_f
        · refine t_g (j2 @h8 (j2 @hs1 @hs2)) ?_
          refine t_r ?_
          simp [go_sem, hP, hgl, hn, hN, ruleN, h8, hs1, hs2, zeroTy] <;> (try omega)
          all_goals exact t_f
      · refine t_g @h8 ?_
        refine t_c1 (j2 @h8 (j2 @hs1 (j2 @nat_v @list_v))) (ref01_same_ok x (Ty.mk 1 [])) ?_
        refine t_g (j2 @h8 @hs1) ?_
        refine t_r ?_
        simp [go_sem, hP, hgl, hn, hN, ruleN, h8, hs1, zeroTy] <;> (try omega)
        all_goals exact t_f
    by_cases h9 : t.kind = 9
    · obtain ⟨x, y, z, rfl⟩ := h3l (.inr h9)
      rw [if_pos (by simp [h9])] at hty
      by_cases hs1 : x.same t.type = true
      · by_cases hs2 : y.same (Ty.mk 4 [Ty.mk 1 [], Ty.mk 4 [Ty.mk 2 [], Ty.mk 4 [t.type, t.type]]]) = true
        · refine t_g @h9 ?_
          refine t_c6 (j2 @h9 (j2 @hs1 (j2 @hs2 (j2 @nat_v @list_v)))) (ref01_same_ok x t.type) (ref01_fun_ok t.type t.type) (ref01_fun_ok (Ty.mk 2 []) (Ty.mk 4 [t.type, t.type])) (ref01_fun_ok (Ty.mk 1 []) (Ty.mk 4 [Ty.mk 2 [], Ty.mk 4 [t.type, t.type]])) (ref01_same_ok y (Ty.mk 4 [Ty.mk 1 [], Ty.mk 4 [Ty.mk 2 [], Ty.mk 4 [t.type, t.type]]])) (ref01_same_ok z (Ty.mk 2 [])) ?_
          by_cases hs3 : z.same (Ty.mk 2 []) = true
          · refine t_g (j2 @h9 (j2 @hs1 (j2 @hs2 @hs3))) ?_
            refine t_c1 @h9 (ref01_copy_ok t.type) ?_
            refine t_r ?_
            simp [go_sem, hP, hgl, hn, hN, ruleN, h9, hs1, hs2, hs3] <;> (try omega)
            all_goals exact t_f
          · refine t_g (j2 @h9 (j2 @hs1 (j2 @hs2 @hs3))) ?_
            refine t_r ?_
            simp [go_sem, hP, hgl, hn, hN, ruleN, h9, hs1, hs2, hs3, zeroTy] <;> (try omega)
            all_goals exact t_f
        · refine t_g @h9 ?_
          refine t_c5 (j2 @h9 (j2 @hs1 (j2 @hs2 (j2 @nat_v @list_v)))) (ref01_same_ok x t.type) (ref01_fun_ok t.type t.type) (ref01_fun_ok (Ty.mk 2 []) (Ty.mk 4 [t.type, t.type])) (ref01_fun_ok (Ty.mk 1 []) (Ty.mk 4 [Ty.mk 2 [], Ty.mk 4 [t.type, t.type]])) (ref01_same_ok y (Ty.mk 4 [Ty.mk 1 [], Ty.mk 4 [Ty.mk 2 [], Ty.mk 4 [t.type, t.type]]])) ?_
          refine t_g (j2 @h9 (j2 @hs1 @hs2)) ?_
          refine t_r ?_
          simp [go_sem, hP, hgl, hn, hN, ruleN, h9, hs1, hs2, zeroTy] <;> (try omega)
          all_goals exact t_f
      · refine t_g @h9 ?_
        refine t_c1 (j2 @h9 @hs1) (ref01_same_ok x t.type) ?_
        refine t_g (j2 @h9 @hs1) ?_
        refine t_r ?_
        simp [go_sem, hP, hgl, hn, hN, ruleN, h9, hs1, zeroTy] <;> (try omega)
        all_goals exact t_f
    by_cases h10 : t.kind = 10
    · obtain ⟨x, y, rfl⟩ := h2l (.inr (.inr h10))
      have hcx := (hdo x (by simp)).2
      have hcy := (hdo y (by simp)).2
      refine t_g @h10 ?_
      refine t_c2 @h10 (ref01_two_ok x y) (ref02_ok_ok (Ty.mk 3 [x, y]) (by rw [count_two]; omega)) ?_
      refine t_r ?_
      simp [go_sem, hP, hgl, hn, hN, ruleN, h10] <;> (try omega)
      all_goals exact t_f
    by_cases h11 : t.kind = 11
    · obtain ⟨x, rfl⟩ := h1l (.inr (.inl h11))
      by_cases hx : x.kind = 3
      · obtain ⟨p, q, hp, op, oq, e0, e1⟩ := Ty.ok_args (hdo x (by simp)) (.inl hx)
        refine t_g (j2 @h11 (j2 @hx @hp)) ?_
        refine t_r ?_
        simp [go_sem, hP, hgl, hn, hN, ruleN, h11, hx, e0] <;> (try omega)
        all_goals exact t_f
      · refine t_g (j2 @h11 @hx) ?_
        refine t_r ?_
        simp [go_sem, hP, hgl, hn, hN, ruleN, h11, hx, zeroTy] <;> (try omega)
        all_goals exact t_f
    by_cases h12 : t.kind = 12
    · obtain ⟨x, rfl⟩ := h1l (.inr (.inr h12))
      by_cases hx : x.kind = 3
      · obtain ⟨p, q, hp, op, oq, e0, e1⟩ := Ty.ok_args (hdo x (by simp)) (.inl hx)
        refine t_g (j2 @h12 (j2 @hx @hp)) ?_
        refine t_r ?_
        simp [go_sem, hP, hgl, hn, hN, ruleN, h12, hx, e1] <;> (try omega)
        all_goals exact t_f
      · refine t_g (j2 @h12 @hx) ?_
        refine t_r ?_
        simp [go_sem, hP, hgl, hn, hN, ruleN, h12, hx, zeroTy] <;> (try omega)
        all_goals exact t_f
    refine t_g (j2 @h1 (j2 @hk2 (j2 @h3 (j2 @h4 (j2 @h5 (j2 @h6 (j2 @h7 (j2 @h8 (j2 @h9 (j2 @h10 (j2 @h11 @h12))))))))))) ?_
    refine t_c1 @h1 ref01_unit_ok ?_
    refine t_r ?_
    simp [go_sem, hP, hgl, hn, hN, ruleN, h1, hk2, h3, h4, h5, h6, h7, h8, h9, h10, h11, h12] <;> (try omega)
    all_goals exact t_f
end Go.Proofs.YteoalfdaanlbjaaGreatDoor.Lift

namespace Go.Proofs.YteoalfdaanlbjaaGreatDoor.Lift
set_option linter.unusedSimpArgs false
set_option linter.unusedVariables false
set_option linter.unnecessarySimpa false
open Go
variable {gl : Globs}

def Tm.typedE (t : Tm) (g : List Ty) : Ty × Int := if t.checkN = 0 then t.inferN g else (zeroTy, t.checkN)
def Tm.typeE (t : Tm) (g : List Ty) : Ty × Int := if ctxN g = 0 then t.typedE g else (zeroTy, ctxN g)

theorem Tm.checkN_iff (t : Tm) : t.checkN = 0 ↔ t.shape = true ∧ t.count ≤ 4096 := by
  unfold Tm.checkN
  split
  · split
    · rename_i h; simp; omega
    · rename_i h; simp; constructor <;> first | assumption | omega
  · rename_i h; simp [h]

theorem errTys_all {l : List Ty} (h : errTys l = 0) : ∀ x ∈ l, x.ok := by
  induction l with
  | nil => simp
  | cons a r ih =>
    simp only [errTys] at h
    split at h
    · rename_i ha
      intro x hx
      rcases List.mem_cons.1 hx with rfl | hx
      · exact (Ty.checkN_iff _).1 ha
      · exact ih h x hx
    · rename_i ha; exact absurd h ha

theorem ctxN_all {l : List Ty} (h : ctxN l = 0) : l.length ≤ 16 ∧ ∀ x ∈ l, x.ok := by
  unfold ctxN at h
  split at h
  · cases h
  · exact ⟨by omega, errTys_all h⟩

theorem ref02_typed_ok (t : Tm) (g : List Ty) (hgl : g.length ≤ 1048576) (ht : t.tys) (hc : t.count ≤ 1073741824) (hg : ∀ x ∈ g, x.ok) : Con1 Tryz.prog gl 78 [.sl (g.map Ty.cells), t.dv] [] (.tup [(t.typedE g).1.dv, dint (t.typedE g).2]) [] := by
  refine t_in Tryz.func78 ?_
  intro X hP hgl hf hfn hn hR hids hfit
  refine t_g0 ?_
  refine t_c1 trivial (ref02_check_ok t ht (by omega)) ?_
  by_cases h : t.checkN = 0
  · refine t_g @h ?_
    refine t_c1 trivial (infer_ok t g (by omega) ((Tm.checkN_iff t).1 h).1 hg) ?_
    refine t_r ?_
    simp [go_sem, hP, hgl, hn, Tm.typedE, h] <;> (try omega)
    all_goals exact t_f
  · refine t_g @h ?_
    refine t_r ?_
    simp [go_sem, hP, hgl, hn, Tm.typedE, h, zeroTy] <;> (try omega)
    all_goals exact t_f

theorem ref02_typeof_ok (t : Tm) (g : List Ty) (hg : ∀ x ∈ g, x.count ≤ 2147483648) (ht : t.tys) (hc : t.count ≤ 1073741824) : Con1 Tryz.prog gl 18 [.sl (g.map Ty.cells), t.dv] [] (.tup [(t.typeE g).1.dv, dint (t.typeE g).2]) [] := by
  refine t_in Tryz.func18 ?_
  intro X hP hgl hf hfn hn hR hids hfit
  refine t_g0 ?_
  refine t_c1 trivial (ref01_context_ok g hg) ?_
  by_cases h : ctxN g = 0
  · have ha := ctxN_all h
    refine t_g @h ?_
    refine t_c1 trivial (ref02_typed_ok t g (by omega) ht hc ha.2) ?_
    refine t_r ?_
    simp [go_sem, hP, hgl, hn, Tm.typeE, h] <;> (try omega)
    all_goals exact t_f
  · refine t_g @h ?_
    refine t_r ?_
    simp [go_sem, hP, hgl, hn, Tm.typeE, h, zeroTy] <;> (try omega)
    all_goals exact t_f

def Tm.leastN : Tm → Int → Bool
  | .mk _ i _ a, m => !decide (m < i) && leasts a m
where
  leasts : List Tm → Int → Bool
    | [], _ => true
    | a :: r, m => a.leastN m && leasts r m
theorem Tm.leastN_eq (t : Tm) (m : Int) : t.leastN m = (!decide (m < t.index) && leastN.leasts t.args m) := by cases t; rfl
theorem Tm.leasts_append (l r : List Tm) (m : Int) : leastN.leasts (l ++ r) m = (leastN.leasts l m && leastN.leasts r m) := by
  induction l with
  | nil => simp [leastN.leasts]
  | cons a r ih => simp [leastN.leasts, ih, Bool.and_assoc]

theorem least_ok (t : Tm) (m : Int) : Con1 Tryz.prog gl 91 [t.dv, dint m] [] (dbool (t.leastN m)) [] := by
  induction t using Tm.ind with
  | h t ih =>
  refine t_in Tryz.func91 ?_
  intro X hP hgl hf hfn hn hR hids hfit
  have hlen := Tm.fit_len (hfit t.dv (by simp))
  by_cases h : m < t.index
  · refine t_g @h ?_
    refine t_r ?_
    simp [go_sem, hP, hgl, hn, Tm.leastN_eq t, h] <;> (try omega)
  · refine t_g @h ?_
    refine t_a ?_
    refine t_sub [] trivial (W_listI (t.args) (fun done => Tm.leastN.leasts done m = true) (fun done rest => [(.slot 1, .one (.v (dint m))), (.slot 14, .one (.v (dint done.length))), (.slot 13, .one (.v (dint t.args.length))), (.slot 12, .one (.v (.sl (t.args.map Tm.cells))))]) (rfl) ?_ ?_)
    · intro done x rest hL hg0 hI hnext
      have hlt : done.length < t.args.length := by rw [hL]; simp
      have hxm := List.mem_of_getElem? hg0
      refine t_rg0 ?_
      refine t_yes ?_
      refine t_g @hg0 ?_
      refine t_c1 @hg0 (ih x hxm) ?_
      by_cases hx : x.leastN m = true
      · refine t_gt (wr []) trivial @hx (hnext (by rw [Tm.leasts_append, hI]; simp [Tm.leastN.leasts, hx]))
      · refine t_g @hx ?_
        refine t_r ?_
        simp [go_sem, hP, hgl, hn, Tm.leastN_eq t, h] <;> (try omega)
        rw [hL, Tm.leasts_append]
        simp [Tm.leastN.leasts, hx]
    · intro hI
      refine t_rg0 ?_
      refine t_no ?_
      refine t_g0 ?_
      refine t_r ?_
      simp [go_sem, hP, hgl, hn, Tm.leastN_eq t, h, hI] <;> (try omega)

end Go.Proofs.YteoalfdaanlbjaaGreatDoor.Lift

namespace Go.Proofs.YteoalfdaanlbjaaGreatDoor.Lift
set_option linter.unusedSimpArgs false
set_option linter.unusedVariables false
set_option linter.unnecessarySimpa false
open Go
variable {gl : Globs}

def Tm.argN (t : Tm) (i : Nat) : Tm := t.args.getD i zeroTm

end Go.Proofs.YteoalfdaanlbjaaGreatDoor.Lift

/-
  Plain facts: lifting, putting in, reducing.
-/
namespace Go.Proofs.YteoalfdaanlbjaaGreatDoor.Lift
set_option linter.unusedSimpArgs false
set_option linter.unusedVariables false
set_option linter.unnecessarySimpa false
open Go

def bindI (k : Int) : Int := if k = 2 then 1 else 0

namespace Tm
set_option linter.unusedSimpArgs false
set_option linter.unusedVariables false
set_option linter.unnecessarySimpa false
def upN : Tm → Int → Int → Tm
  | .mk k i ty a, f, b => .mk k (if k = 1 ∧ f ≤ i then i + b else i) ty (ups a (f + bindI k) b)
where
  ups : List Tm → Int → Int → List Tm
    | [], _, _ => []
    | x :: r, f, b => x.upN f b :: ups r f b
theorem ups_map (l : List Tm) (f b : Int) : upN.ups l f b = l.map fun x => x.upN f b := by
  induction l with
  | nil => rfl
  | cons a r ih => simp [upN.ups, ih]
theorem upN_eq (t : Tm) (f b : Int) : t.upN f b = .mk t.kind (if t.kind = 1 ∧ f ≤ t.index then t.index + b else t.index) t.type (t.args.map fun x => x.upN (f + bindI t.kind) b) := by
  cases t; rw [upN, ups_map]; rfl

def timesN : Tm → Int → Nat
  | .mk k i _ a, p => (if k = 1 ∧ i = p then 1 else 0) + timess a (p + bindI k)
where
  timess : List Tm → Int → Nat
    | [], _ => 0
    | x :: r, p => x.timesN p + timess r p
theorem timesN_eq (t : Tm) (p : Int) : t.timesN p = (if t.kind = 1 ∧ t.index = p then 1 else 0) + timesN.timess t.args (p + bindI t.kind) := by cases t; rfl
theorem timess_append (l m : List Tm) (p : Int) : timesN.timess (l ++ m) p = timesN.timess l p + timesN.timess m p := by
  induction l with
  | nil => simp [timesN.timess]
  | cons a r ih => simp [timesN.timess, ih]; omega
theorem timesN_le (t : Tm) (p : Int) : t.timesN p ≤ t.count := by
  induction t using Tm.ind generalizing p with
  | h t ih =>
  have key : ∀ l : List Tm, (∀ a ∈ l, a ∈ t.args) → timesN.timess l (p + bindI t.kind) ≤ count.counts l := by
    intro l
    induction l with
    | nil => intro _; exact Nat.le_refl _
    | cons a r ihr =>
      intro h
      have h1 := ih a (h a (by simp)) (p + bindI t.kind)
      have h2 := ihr fun b hb => h b (by simp [hb])
      simp only [timesN.timess, count.counts]
      omega
  have := key t.args fun _ h => h
  rw [timesN_eq, count_eq]
  split <;> omega

theorem timess_le (l : List Tm) (p : Int) : timesN.timess l p ≤ count.counts l := by
  induction l with
  | nil => exact Nat.le_refl _
  | cons a r ih => have := timesN_le a p; simp only [timesN.timess, count.counts]; omega

def inN : Tm → Int → Int → Tm → Tm
  | .mk k i ty a, p, d, s =>
    if k = 1 then if i = p + d then s.upN 0 (p + d) else if p + d < i then .mk 1 (i - 1) (Ty.mk 0 []) [] else .mk k i ty a
    else .mk k i ty (ins a p (d + bindI k) s)
where
  ins : List Tm → Int → Int → Tm → List Tm
    | [], _, _, _ => []
    | x :: r, p, d, s => x.inN p d s :: ins r p d s
theorem ins_map (l : List Tm) (p d : Int) (s : Tm) : inN.ins l p d s = l.map fun x => x.inN p d s := by
  induction l with
  | nil => rfl
  | cons a r ih => simp [inN.ins, ih]
theorem inN_eq (t : Tm) (p d : Int) (s : Tm) : t.inN p d s =
    if t.kind = 1 then if t.index = p + d then s.upN 0 (p + d) else if p + d < t.index then .mk 1 (t.index - 1) (Ty.mk 0 []) [] else t
    else .mk t.kind t.index t.type (t.args.map fun x => x.inN p (d + bindI t.kind) s) := by
  cases t; rw [inN, ins_map]; rfl

/-- all indexes are numbers up to m -/
def idx : Tm → Int → Prop
  | .mk _ i _ a, m => (0 ≤ i ∧ i ≤ m) ∧ idxs a m
where
  idxs : List Tm → Int → Prop
    | [], _ => True
    | x :: r, m => x.idx m ∧ idxs r m
theorem idxs_iff (l : List Tm) (m : Int) : idx.idxs l m ↔ ∀ x ∈ l, x.idx m := by
  induction l with
  | nil => simp [idx.idxs]
  | cons a r ih => simp [idx.idxs, ih]
theorem idx_eq (t : Tm) (m : Int) : t.idx m ↔ (0 ≤ t.index ∧ t.index ≤ m) ∧ ∀ x ∈ t.args, x.idx m := by cases t; simp only [idx, idxs_iff, index, args]
theorem idx_mono {t : Tm} {m n : Int} (h : m ≤ n) (hi : t.idx m) : t.idx n := by
  induction t using Tm.ind with
  | h t ih =>
  rw [idx_eq] at hi ⊢
  exact ⟨⟨hi.1.1, by omega⟩, fun x hx => ih x hx (hi.2 x hx)⟩
end Tm
end Go.Proofs.YteoalfdaanlbjaaGreatDoor.Lift

namespace Go.Proofs.YteoalfdaanlbjaaGreatDoor.Lift
set_option linter.unusedSimpArgs false
set_option linter.unusedVariables false
set_option linter.unnecessarySimpa false
open Go
variable {gl : Globs}

/-- several ways lead to one state, at a place that the first way tells -/
theorem W_cutX {X : Ctx} {k kk : List Item} {s : St} (S : St) (h1 : W X kk S → W X k s) (h2 : W X kk S) : W X k s := h1 h2

theorem below_ok (t : Tm) : Con1 Tryz.prog gl 136 [t.dv] [] (dint (bindI t.kind)) [] := by
  refine t_in Tryz.func136 ?_
  intro X hP hgl hf hfn hn hR hids hfit
  by_cases h : t.kind = 2
  · refine t_g @h ?_
    refine t_r ?_
    simp [go_sem, hP, hgl, hn, bindI, h] <;> (try omega)
  · refine t_g @h ?_
    refine t_r ?_
    simp [go_sem, hP, hgl, hn, bindI, h] <;> (try omega)

theorem bindI_le (k : Int) : 0 ≤ bindI k ∧ bindI k ≤ 1 := by unfold bindI; split <;> omega

theorem times_ok (t : Tm) (p : Int) (hc : t.count ≤ 1073741824) (hp0 : 0 ≤ p) (hp : p + t.count ≤ 2147483648) : Con1 Tryz.prog gl 93 [t.dv, dint p] [] (dint (t.timesN p)) [] := by
  induction t using Tm.ind generalizing p with
  | h t ih =>
  have hct := Tm.count_eq t
  have hbd := bindI_le t.kind
  refine t_in Tryz.func93 ?_
  intro X hP hgl hf hfn hn hR hids hfit
  have hlen := Tm.fit_len (hfit t.dv (by simp))
  refine t_g0 ?_
  apply W_cutX [(.slot 5, .one (.v (dint (if t.kind = 1 ∧ t.index = p then 1 else 0)))), (.slot 1, .one (.v (dint p))), (.loc 2, .row ([.v (dint t.kind), .v (dint t.index), .v (dint t.type.kind), .v (.sl (t.type.args.map Ty.cells)), .v (.sl (t.args.map Tm.cells))])), (.slot 2, .one (.loc 2 0)), (.slot 22, .one (.v (dint 0))), (.slot 21, .one (.v (dint t.args.length))), (.slot 20, .one (.v (.sl (t.args.map Tm.cells))))]
  · intro hrest
    by_cases h1 : t.kind = 1
    · by_cases h2 : t.index = p
      · refine t_g (j2 @h1 @h2) ?_
        refine t_b ?_
        refine t_sub [] (j2 @h1 @h2) hrest
      · refine t_g (j2 @h1 @h2) ?_
        refine t_b ?_
        refine t_sub [] (j2 @h1 @h2) hrest
    · refine t_g @h1 ?_
      refine t_b ?_
      refine t_sub [] @h1 hrest
  · refine t_a ?_
    refine W_sub [] (by simp [go_sem]) (by simp [go_sem, Tm.timesN.timess] <;> omega) (by simp [go_sem]) (W_list (t.args) (fun done rest => [(.slot 5, .one (.v (dint ((if t.kind = 1 ∧ t.index = p then 1 else 0) + (Tm.timesN.timess done (p + bindI t.kind) : Nat))))), (.slot 1, .one (.v (dint p))), (.slot 22, .one (.v (dint done.length))), (.slot 21, .one (.v (dint t.args.length))), (.slot 20, .one (.v (.sl (t.args.map Tm.cells)))), (.loc 2, .row ([.v (dint t.kind), .v (dint t.index), .v (dint t.type.kind), .v (.sl (t.type.args.map Ty.cells)), .v (.sl (t.args.map Tm.cells))])), (.slot 2, .one (.loc 2 0))]) ?_ ?_)
    · intro done x rest hL hg0 hnext
      have hlt : done.length < t.args.length := by rw [hL]; simp
      have hxm := List.mem_of_getElem? hg0
      have hcs : Tm.count.counts t.args = Tm.count.counts done + (x.count + Tm.count.counts rest) := by rw [hL, Tm.counts_append]; rfl
      have h1 := Tm.timess_le done (p + bindI t.kind)
      have h2 := Tm.timesN_le x (p + bindI t.kind)
      have h3 : (if t.kind = 1 ∧ t.index = p then (1 : Int) else 0) ≤ 1 ∧ 0 ≤ (if t.kind = 1 ∧ t.index = p then (1 : Int) else 0) := by split <;> omega
      generalize (if t.kind = 1 ∧ t.index = p then (1 : Int) else 0) = z at *
      refine t_rg0 ?_
      refine t_yes ?_
      refine t_g @hg0 ?_
      refine t_c2 @hg0 (below_ok t) (ih x hxm (p + bindI t.kind) (by omega) (by omega) (by omega)) ?_
      repeat (first | (refine W_sub [] (by simp [go_sem]) (by simp [go_sem, Tm.timess_append, Tm.timesN.timess] <;> omega) (by simp [go_sem]) hnext) | refine W_seq ?_ | refine W_skip ?_ | refine W_block ?_ | refine W_inBlock ?_ | refine W_label ?_ | refine W_exit rfl ?_ | ((first | refine W_reg [] fun K hK => ?_ | refine W_regd (by rw [hP]; exact mixed) [] fun K hK => ?_); simp [go_sem, hP, hgl, hn]; (repeat (refine ⟨by omega, ?_⟩)); (first | refine hK _ ?_ | refine ⟨by rfl, hK _ ?_⟩); clear hK K) | refine W_cond rfl (fun _ => ?_) (fun hq => False.elim (by first | (simp; done) | (simp; omega) | (simp at hq; done) | (simp at hq; omega))) | refine W_cond rfl (fun hq => False.elim (by first | (simp; done) | (simp; omega) | (simp at hq; done) | (simp at hq; omega))) (fun _ => ?_))
    · refine t_rg0 ?_
      refine t_no ?_
      refine t_g0 ?_
      refine t_r ?_
      simp [go_sem, hP, hgl, hn, Tm.timesN_eq t] <;> (try omega)
      split <;> simp

theorem up_ok (t : Tm) (f b : Int) (hi : t.idx 1099511627776) (hb1 : -1099511627776 ≤ b) (hb2 : b ≤ 1099511627776) (hf0 : 0 ≤ f) (hfc : f + t.count ≤ 1099511627776) : Con1 Tryz.prog gl 137 [t.dv, dint f, dint b] [] (t.upN f b).dv [] := by
  induction t using Tm.ind generalizing f with
  | h t ih =>
  have hct := Tm.count_eq t
  have hbd := bindI_le t.kind
  have hix := (Tm.idx_eq t _).1 hi
  refine t_in Tryz.func137 ?_
  intro X hP hgl hf hfn hn hR hids hfit
  have hlen := Tm.fit_len (hfit t.dv (by simp))
  refine t_g0 ?_
  apply W_cutX [(.loc 7, .row ([.v (dint t.kind), .v (dint (if t.kind = 1 ∧ f ≤ t.index then t.index + b else t.index)), .v (dint t.type.kind), .v (.sl (t.type.args.map Ty.cells)), .own 0 []])), (.slot 7, .one (.loc 7 0)), (.slot 1, .one (.v (dint f))), (.slot 2, .one (.v (dint b))), (.loc 3, .row ([.v (dint t.kind), .v (dint t.index), .v (dint t.type.kind), .v (.sl (t.type.args.map Ty.cells)), .v (.sl (t.args.map Tm.cells))])), (.slot 3, .one (.loc 3 0)), (.loc 6, .row ([.v (dint 0), .v (dint 0), .v (dint 0), .own 0 [], .own 0 []])), (.slot 6, .one (.loc 6 0)), (.slot 34, .one (.v (dint 0))), (.slot 33, .one (.v (dint t.args.length))), (.slot 32, .one (.v (.sl (t.args.map Tm.cells))))]
  · intro hrest
    by_cases h1 : t.kind = 1
    · by_cases h2 : f ≤ t.index
      · have h2' : ¬ t.index < f := by omega
        refine t_g (j2 @h1 @h2) ?_
        refine t_b ?_
        refine t_sub [] (j2 @h1 @h2) hrest
      · refine t_g (j2 @h1 @h2) ?_
        refine t_b ?_
        refine t_sub [] (j2 @h1 @h2) hrest
    · refine t_g @h1 ?_
      refine t_b ?_
      refine t_sub [] @h1 hrest
  · refine t_a ?_
    refine t_sub [(1007, 0)] trivial (W_list (t.args) (fun done rest => [(.loc 7, .row ([.v (dint t.kind), .v (dint (if t.kind = 1 ∧ f ≤ t.index then t.index + b else t.index)), .v (dint t.type.kind), .v (.sl (t.type.args.map Ty.cells)), .own 1007 (done.map fun x => (x.upN (f + bindI t.kind) b).cells)])), (.slot 7, .one (.loc 7 0)), (.tok 1007, .tk 5 done.length), (.slot 1, .one (.v (dint f))), (.slot 2, .one (.v (dint b))), (.loc 3, .row ([.v (dint t.kind), .v (dint t.index), .v (dint t.type.kind), .v (.sl (t.type.args.map Ty.cells)), .v (.sl (t.args.map Tm.cells))])), (.slot 3, .one (.loc 3 0)), (.loc 6, .row ([.v (dint 0), .v (dint 0), .v (dint 0), .own 0 [], .own 0 []])), (.slot 6, .one (.loc 6 0)), (.slot 34, .one (.v (dint done.length))), (.slot 33, .one (.v (dint t.args.length))), (.slot 32, .one (.v (.sl (t.args.map Tm.cells))))]) ?_ ?_)
    · intro done x rest hL hg0 hnext
      have hlt : done.length < t.args.length := by rw [hL]; simp
      have hxm := List.mem_of_getElem? hg0
      have hcs := Tm.count_mem hxm
      refine t_rg0 ?_
      refine t_yes ?_
      refine t_g @hg0 ?_
      refine t_c2 @hg0 (below_ok t) (ih x hxm (f + bindI t.kind) (hix.2 x hxm) (by omega) (by omega)) ?_
      refine t_gt (wr [(1007, 48)]) (Tm.cells_eq (x.upN (f + bindI t.kind) b)) trivial hnext
    · refine t_rg0 ?_
      refine t_no ?_
      refine t_g0 ?_
      refine t_r ?_
      simp [go_sem, hP, hgl, hn] <;> (try omega)
      rw [Tm.upN_eq t]
      simp [Tm.dv, Tm.cells_eq, Tm.kind_mk, Tm.index_mk, Tm.type_mk, Tm.args_mk]

theorem ref02_var_ok (i : Int) : Con1 Tryz.prog gl 68 [dint i] [] (Tm.mk 1 i (Ty.mk 0 []) []).dv [] := by
  refine t_in Tryz.func68 ?_
  intro X hP hgl hf hfn hn hR hids hfit
  refine t_g0 ?_
  refine t_r ?_
  simp [go_sem, hP, hgl, hn] <;> (try omega)
  all_goals exact t_f

theorem in_ok (t : Tm) (p d : Int) (s : Tm) (hi : t.idx 1099511627776) (hs : s.idx 1099511627776) (hp : 0 ≤ p) (hd : 0 ≤ d) (hpd : p + d + t.count + s.count ≤ 1099511627776) : Con1 Tryz.prog gl 95 [t.dv, dint p, dint d, s.dv] [] (t.inN p d s).dv [] := by
  induction t using Tm.ind generalizing d with
  | h t ih =>
  have hct := Tm.count_eq t
  have hbd := bindI_le t.kind
  have hix := (Tm.idx_eq t _).1 hi
  refine t_in Tryz.func95 ?_
  intro X hP hgl hf hfn hn hR hids hfit
  have hlen := Tm.fit_len (hfit t.dv (by simp))
  by_cases h1 : t.kind = 1
  · by_cases h2 : t.index = p + d
    · refine t_g (j2 @h1 @h2) ?_
      refine t_c1 @h1 (up_ok s 0 (p + d) hs (by omega) (by omega) (by omega) (by omega)) ?_
      refine t_r ?_
      simp [go_sem, hP, hgl, hn, Tm.inN_eq t, h1, h2] <;> (try omega)
      all_goals exact t_f
    · by_cases h3 : p + d < t.index
      · refine t_g (j2 @h1 (j2 @h2 @h3)) ?_
        refine t_c1 @h1 (ref02_var_ok (t.index - 1)) ?_
        refine t_r ?_
        simp [go_sem, hP, hgl, hn, Tm.inN_eq t, h1, h2, h3] <;> (try omega)
        all_goals exact t_f
      · refine t_g (j2 @h1 (j2 @h2 @h3)) ?_
        refine t_r ?_
        simp [go_sem, hP, hgl, hn, Tm.inN_eq t, h1, h2, h3] <;> (try omega)
        all_goals (simp [Ty.dv, Ty.cells_eq, Ty.kind_mk, Ty.args_mk, Tm.dv, Tm.cells_eq, Tm.kind_mk, Tm.index_mk, Tm.type_mk, Tm.args_mk, Val.dv, Val.cells_eq, Val.kind_mk, Val.num_mk, Val.list_mk, Val.args_mk, ints])
        all_goals exact h1.symm
  · refine t_g @h1 ?_
    refine t_a ?_
    refine t_sub [(1009, 0)] trivial (W_list (t.args) (fun done rest => [(.loc 9, .row ([.v (dint t.kind), .v (dint t.index), .v (dint t.type.kind), .v (.sl (t.type.args.map Ty.cells)), .own 1009 (done.map fun x => (x.inN p (d + bindI t.kind) s).cells)])), (.slot 9, .one (.loc 9 0)), (.tok 1009, .tk 5 done.length), (.slot 1, .one (.v (dint p))), (.slot 2, .one (.v (dint d))), (.loc 4, .row ([.v (dint t.kind), .v (dint t.index), .v (dint t.type.kind), .v (.sl (t.type.args.map Ty.cells)), .v (.sl (t.args.map Tm.cells))])), (.slot 4, .one (.loc 4 0)), (.loc 7, .row ([.v (dint s.kind), .v (dint s.index), .v (dint s.type.kind), .v (.sl (s.type.args.map Ty.cells)), .v (.sl (s.args.map Tm.cells))])), (.slot 7, .one (.loc 7 0)), (.loc 8, .row ([.v (dint 0), .v (dint 0), .v (dint 0), .own 0 [], .own 0 []])), (.slot 8, .one (.loc 8 0)), (.slot 47, .one (.v (dint done.length))), (.slot 46, .one (.v (dint t.args.length))), (.slot 45, .one (.v (.sl (t.args.map Tm.cells))))]) ?_ ?_)
    · intro done x rest hL hg0 hnext
      have hlt : done.length < t.args.length := by rw [hL]; simp
      have hxm := List.mem_of_getElem? hg0
      have hcs := Tm.count_mem hxm
      refine t_rg0 ?_
      refine t_yes ?_
      refine t_g @hg0 ?_
      refine t_c2 @hg0 (below_ok t) (ih x hxm (d + bindI t.kind) (hix.2 x hxm) (by omega) (by omega)) ?_
      refine t_gt (wr [(1009, 62)]) (Tm.cells_eq (x.inN p (d + bindI t.kind) s)) trivial hnext
    · refine t_rg0 ?_
      refine t_no ?_
      refine t_g0 ?_
      refine t_r ?_
      simp [go_sem, hP, hgl, hn] <;> (try omega)
      rw [Tm.inN_eq t]
      simp [h1, Tm.dv, Tm.cells_eq, Tm.kind_mk, Tm.index_mk, Tm.type_mk, Tm.args_mk]
end Go.Proofs.YteoalfdaanlbjaaGreatDoor.Lift

namespace Go.Proofs.YteoalfdaanlbjaaGreatDoor.Lift
set_option linter.unusedSimpArgs false
set_option linter.unusedVariables false
set_option linter.unnecessarySimpa false
open Go
variable {gl : Globs}

def appT (f a : Tm) : Tm := Tm.mk 3 0 (Ty.mk 0 []) [f, a]

theorem ref02_t_ok (k : Int) (s : Ty) (l : List Tm) : Con1 Tryz.prog gl 70 [dint k, s.dv, .sl (l.map Tm.cells)] [] (Tm.mk k 0 s l).dv [] := by
  refine t_in Tryz.func70 ?_
  intro X hP hgl hf hfn hn hR hids hfit
  refine t_g0 ?_
  refine t_c1 trivial (ref02_n_ok k l) ?_
  refine t_g0 ?_
  refine t_c1 trivial (ref01_copy_ok s) ?_
  refine t_g0 ?_
  refine t_r ?_
  simp [go_sem, hP, hgl, hn] <;> (try omega)
  all_goals exact t_f

end Go.Proofs.YteoalfdaanlbjaaGreatDoor.Lift

