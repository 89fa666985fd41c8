/-
  Facts of the seat's types, printed by a program: each is proved by reckoning.
-/
import Derived.Test.YtbmnlkfgkdallaaDoorL4
import Derived.Test.YtbmnlkfgkdallaaDoorProg
namespace Go.Proofs.YtbmnlkfgkdallaaDoor.Lift
set_option linter.unusedVariables false
open Go

theorem mixed : Tryd.prog.follows .mixedOrders = true := by kernel_rfl
-- 0: ()
theorem lay0 : layT Tryd.prog 0 = some (false, 1) := by kernel_rfl
theorem con0 : concT Tryd.prog 0 = true := by kernel_rfl
-- 1: func()
theorem lay1 : layT Tryd.prog 1 = some (false, 1) := by kernel_rfl
theorem zer1 : zeroT Tryd.prog 1 = some [.v (.prim .nilFunc)] := by kernel_rfl
theorem con1 : concT Tryd.prog 1 = true := by kernel_rfl
-- 2: int64
theorem lay2 : layT Tryd.prog 2 = some (false, 1) := by kernel_rfl
theorem zer2 : zeroT Tryd.prog 2 = some [.v (.prim (.int .i64 (0)))] := by kernel_rfl
theorem con2 : concT Tryd.prog 2 = true := by kernel_rfl
theorem int2 : intT Tryd.prog 2 = some .i64 := by kernel_rfl
-- 3: int
theorem lay3 : layT Tryd.prog 3 = some (false, 1) := by kernel_rfl
theorem zer3 : zeroT Tryd.prog 3 = some [.v (.prim (.int .i64 (0)))] := by kernel_rfl
theorem con3 : concT Tryd.prog 3 = true := by kernel_rfl
theorem int3 : intT Tryd.prog 3 = some .i64 := by kernel_rfl
-- 4: bool
theorem lay4 : layT Tryd.prog 4 = some (false, 1) := by kernel_rfl
theorem zer4 : zeroT Tryd.prog 4 = some [.v (.prim (.bool false))] := by kernel_rfl
theorem boo4 : boolT Tryd.prog 4 = true := by kernel_rfl
theorem con4 : concT Tryd.prog 4 = true := by kernel_rfl
-- 5: uint8
theorem lay5 : layT Tryd.prog 5 = some (false, 1) := by kernel_rfl
theorem zer5 : zeroT Tryd.prog 5 = some [.v (.prim (.int .u8 (0)))] := by kernel_rfl
theorem con5 : concT Tryd.prog 5 = true := by kernel_rfl
theorem int5 : intT Tryd.prog 5 = some .u8 := by kernel_rfl
-- 6: abi.BoundsErrorCode
theorem lay6 : layT Tryd.prog 6 = some (false, 1) := by kernel_rfl
theorem zer6 : zeroT Tryd.prog 6 = some [.v (.prim (.int .u8 (0)))] := by kernel_rfl
theorem con6 : concT Tryd.prog 6 = true := by kernel_rfl
theorem int6 : intT Tryd.prog 6 = some .u8 := by kernel_rfl
-- 7: struct { x int64; y int; signed bool; code abi.BoundsErrorCode }
theorem lay7 : layT Tryd.prog 7 = some (true, 4) := by kernel_rfl
theorem zer7 : zeroT Tryd.prog 7 = some [.v (.prim (.int .i64 (0))), .v (.prim (.int .i64 (0))), .v (.prim (.bool false)), .v (.prim (.int .u8 (0)))] := by kernel_rfl
theorem pla7 : placesT Tryd.prog 7 = some [(0, 1), (1, 1), (2, 1), (3, 1)] := by kernel_rfl
theorem con7 : concT Tryd.prog 7 = true := by kernel_rfl
theorem fld7_0 : fieldT Tryd.prog 7 0 = some (false, 0, 1) := by kernel_rfl
theorem fld7_1 : fieldT Tryd.prog 7 1 = some (false, 1, 1) := by kernel_rfl
theorem fld7_2 : fieldT Tryd.prog 7 2 = some (false, 2, 1) := by kernel_rfl
theorem fld7_3 : fieldT Tryd.prog 7 3 = some (false, 3, 1) := by kernel_rfl
-- 8: runtime.boundsError
theorem lay8 : layT Tryd.prog 8 = some (true, 4) := by kernel_rfl
theorem zer8 : zeroT Tryd.prog 8 = some [.v (.prim (.int .i64 (0))), .v (.prim (.int .i64 (0))), .v (.prim (.bool false)), .v (.prim (.int .u8 (0)))] := by kernel_rfl
theorem pla8 : placesT Tryd.prog 8 = some [(0, 1), (1, 1), (2, 1), (3, 1)] := by kernel_rfl
theorem con8 : concT Tryd.prog 8 = true := by kernel_rfl
theorem fld8_0 : fieldT Tryd.prog 8 0 = some (false, 0, 1) := by kernel_rfl
theorem fld8_1 : fieldT Tryd.prog 8 1 = some (false, 1, 1) := by kernel_rfl
theorem fld8_2 : fieldT Tryd.prog 8 2 = some (false, 2, 1) := by kernel_rfl
theorem fld8_3 : fieldT Tryd.prog 8 3 = some (false, 3, 1) := by kernel_rfl
-- 9: string
theorem lay9 : layT Tryd.prog 9 = some (false, 1) := by kernel_rfl
theorem zer9 : zeroT Tryd.prog 9 = some [.v (.prim (.string ByteArray.empty))] := by kernel_rfl
theorem con9 : concT Tryd.prog 9 = true := by kernel_rfl
-- 10: runtime.errorString
theorem lay10 : layT Tryd.prog 10 = some (false, 1) := by kernel_rfl
theorem zer10 : zeroT Tryd.prog 10 = some [.v (.prim (.string ByteArray.empty))] := by kernel_rfl
theorem con10 : concT Tryd.prog 10 = true := by kernel_rfl
-- 11: runtime.plainError
theorem lay11 : layT Tryd.prog 11 = some (false, 1) := by kernel_rfl
theorem zer11 : zeroT Tryd.prog 11 = some [.v (.prim (.string ByteArray.empty))] := by kernel_rfl
theorem con11 : concT Tryd.prog 11 = true := by kernel_rfl
-- 12: uintptr
theorem lay12 : layT Tryd.prog 12 = some (false, 1) := by kernel_rfl
theorem zer12 : zeroT Tryd.prog 12 = some [.v (.prim (.int .u64 (0)))] := by kernel_rfl
theorem con12 : concT Tryd.prog 12 = true := by kernel_rfl
theorem int12 : intT Tryd.prog 12 = some .u64 := by kernel_rfl
-- 13: struct { msg string; addr uintptr }
theorem lay13 : layT Tryd.prog 13 = some (true, 2) := by kernel_rfl
theorem zer13 : zeroT Tryd.prog 13 = some [.v (.prim (.string ByteArray.empty)), .v (.prim (.int .u64 (0)))] := by kernel_rfl
theorem pla13 : placesT Tryd.prog 13 = some [(0, 1), (1, 1)] := by kernel_rfl
theorem con13 : concT Tryd.prog 13 = true := by kernel_rfl
theorem fld13_0 : fieldT Tryd.prog 13 0 = some (false, 0, 1) := by kernel_rfl
theorem fld13_1 : fieldT Tryd.prog 13 1 = some (false, 1, 1) := by kernel_rfl
-- 14: runtime.errorAddressString
theorem lay14 : layT Tryd.prog 14 = some (true, 2) := by kernel_rfl
theorem zer14 : zeroT Tryd.prog 14 = some [.v (.prim (.string ByteArray.empty)), .v (.prim (.int .u64 (0)))] := by kernel_rfl
theorem pla14 : placesT Tryd.prog 14 = some [(0, 1), (1, 1)] := by kernel_rfl
theorem con14 : concT Tryd.prog 14 = true := by kernel_rfl
theorem fld14_0 : fieldT Tryd.prog 14 0 = some (false, 0, 1) := by kernel_rfl
theorem fld14_1 : fieldT Tryd.prog 14 1 = some (false, 1, 1) := by kernel_rfl
-- 15: *runtime.TypeAssertionError
theorem lay15 : layT Tryd.prog 15 = some (false, 1) := by kernel_rfl
theorem zer15 : zeroT Tryd.prog 15 = some [.v (.prim (.pointer none))] := by kernel_rfl
theorem con15 : concT Tryd.prog 15 = true := by kernel_rfl
-- 16: *runtime.PanicNilError
theorem lay16 : layT Tryd.prog 16 = some (false, 1) := by kernel_rfl
theorem zer16 : zeroT Tryd.prog 16 = some [.v (.prim (.pointer none))] := by kernel_rfl
theorem con16 : concT Tryd.prog 16 = true := by kernel_rfl
-- 17: *abi.Type
theorem lay17 : layT Tryd.prog 17 = some (false, 1) := by kernel_rfl
theorem zer17 : zeroT Tryd.prog 17 = some [.v (.prim (.pointer none))] := by kernel_rfl
theorem con17 : concT Tryd.prog 17 = true := by kernel_rfl
-- 18: struct { typ *abi.Type }
theorem lay18 : layT Tryd.prog 18 = some (true, 1) := by kernel_rfl
theorem zer18 : zeroT Tryd.prog 18 = some [.v (.prim (.pointer none))] := by kernel_rfl
theorem pla18 : placesT Tryd.prog 18 = some [(0, 1)] := by kernel_rfl
theorem con18 : concT Tryd.prog 18 = true := by kernel_rfl
theorem fld18_0 : fieldT Tryd.prog 18 0 = some (false, 0, 1) := by kernel_rfl
-- 19: maps.unhashableTypeError
theorem lay19 : layT Tryd.prog 19 = some (true, 1) := by kernel_rfl
theorem zer19 : zeroT Tryd.prog 19 = some [.v (.prim (.pointer none))] := by kernel_rfl
theorem pla19 : placesT Tryd.prog 19 = some [(0, 1)] := by kernel_rfl
theorem con19 : concT Tryd.prog 19 = true := by kernel_rfl
theorem fld19_0 : fieldT Tryd.prog 19 0 = some (false, 0, 1) := by kernel_rfl
-- 20: interface {}
theorem lay20 : layT Tryd.prog 20 = some (false, 1) := by kernel_rfl
theorem zer20 : zeroT Tryd.prog 20 = some [.v (.prim .nilIface)] := by kernel_rfl
-- 21: int32
theorem lay21 : layT Tryd.prog 21 = some (false, 1) := by kernel_rfl
theorem zer21 : zeroT Tryd.prog 21 = some [.v (.prim (.int .i32 (0)))] := by kernel_rfl
theorem con21 : concT Tryd.prog 21 = true := by kernel_rfl
theorem int21 : intT Tryd.prog 21 = some .i32 := by kernel_rfl
-- 22: []int
theorem lay22 : layT Tryd.prog 22 = some (false, 1) := by kernel_rfl
theorem zer22 : zeroT Tryd.prog 22 = some [.own 0 []] := by kernel_rfl
theorem ele22 : elemT Tryd.prog 22 = some 1 := by kernel_rfl
theorem elz22 : elemZ Tryd.prog 22 = some (1, 8) := by kernel_rfl
theorem con22 : concT Tryd.prog 22 = true := by kernel_rfl
-- 23: []api.Type
theorem lay23 : layT Tryd.prog 23 = some (false, 1) := by kernel_rfl
theorem zer23 : zeroT Tryd.prog 23 = some [.own 0 []] := by kernel_rfl
theorem ele23 : elemT Tryd.prog 23 = some 2 := by kernel_rfl
theorem elz23 : elemZ Tryd.prog 23 = some (2, 32) := by kernel_rfl
theorem con23 : concT Tryd.prog 23 = true := by kernel_rfl
-- 24: struct { Kind int; Args []api.Type }
theorem lay24 : layT Tryd.prog 24 = some (true, 2) := by kernel_rfl
theorem zer24 : zeroT Tryd.prog 24 = some [.v (.prim (.int .i64 (0))), .own 0 []] := by kernel_rfl
theorem pla24 : placesT Tryd.prog 24 = some [(0, 1), (1, 1)] := by kernel_rfl
theorem con24 : concT Tryd.prog 24 = true := by kernel_rfl
theorem fld24_0 : fieldT Tryd.prog 24 0 = some (false, 0, 1) := by kernel_rfl
theorem fld24_1 : fieldT Tryd.prog 24 1 = some (false, 1, 1) := by kernel_rfl
-- 25: api.Type
theorem lay25 : layT Tryd.prog 25 = some (true, 2) := by kernel_rfl
theorem zer25 : zeroT Tryd.prog 25 = some [.v (.prim (.int .i64 (0))), .own 0 []] := by kernel_rfl
theorem pla25 : placesT Tryd.prog 25 = some [(0, 1), (1, 1)] := by kernel_rfl
theorem con25 : concT Tryd.prog 25 = true := by kernel_rfl
theorem fld25_0 : fieldT Tryd.prog 25 0 = some (false, 0, 1) := by kernel_rfl
theorem fld25_1 : fieldT Tryd.prog 25 1 = some (false, 1, 1) := by kernel_rfl
-- 26: []api.Term
theorem lay26 : layT Tryd.prog 26 = some (false, 1) := by kernel_rfl
theorem zer26 : zeroT Tryd.prog 26 = some [.own 0 []] := by kernel_rfl
theorem ele26 : elemT Tryd.prog 26 = some 5 := by kernel_rfl
theorem elz26 : elemZ Tryd.prog 26 = some (5, 72) := by kernel_rfl
theorem con26 : concT Tryd.prog 26 = true := by kernel_rfl
-- 27: struct { Kind int; Index int; Type api.Type; Args []api.Term }
theorem lay27 : layT Tryd.prog 27 = some (true, 5) := by kernel_rfl
theorem zer27 : zeroT Tryd.prog 27 = some [.v (.prim (.int .i64 (0))), .v (.prim (.int .i64 (0))), .v (.prim (.int .i64 (0))), .own 0 [], .own 0 []] := by kernel_rfl
theorem pla27 : placesT Tryd.prog 27 = some [(0, 1), (1, 1), (2, 2), (4, 1)] := by kernel_rfl
theorem con27 : concT Tryd.prog 27 = true := by kernel_rfl
theorem fld27_0 : fieldT Tryd.prog 27 0 = some (false, 0, 1) := by kernel_rfl
theorem fld27_1 : fieldT Tryd.prog 27 1 = some (false, 1, 1) := by kernel_rfl
theorem fld27_2 : fieldT Tryd.prog 27 2 = some (true, 2, 2) := by kernel_rfl
theorem fld27_3 : fieldT Tryd.prog 27 3 = some (false, 4, 1) := by kernel_rfl
-- 28: api.Term
theorem lay28 : layT Tryd.prog 28 = some (true, 5) := by kernel_rfl
theorem zer28 : zeroT Tryd.prog 28 = some [.v (.prim (.int .i64 (0))), .v (.prim (.int .i64 (0))), .v (.prim (.int .i64 (0))), .own 0 [], .own 0 []] := by kernel_rfl
theorem pla28 : placesT Tryd.prog 28 = some [(0, 1), (1, 1), (2, 2), (4, 1)] := by kernel_rfl
theorem con28 : concT Tryd.prog 28 = true := by kernel_rfl
theorem fld28_0 : fieldT Tryd.prog 28 0 = some (false, 0, 1) := by kernel_rfl
theorem fld28_1 : fieldT Tryd.prog 28 1 = some (false, 1, 1) := by kernel_rfl
theorem fld28_2 : fieldT Tryd.prog 28 2 = some (true, 2, 2) := by kernel_rfl
theorem fld28_3 : fieldT Tryd.prog 28 3 = some (false, 4, 1) := by kernel_rfl
-- 29: []api.Instr
theorem lay29 : layT Tryd.prog 29 = some (false, 1) := by kernel_rfl
theorem zer29 : zeroT Tryd.prog 29 = some [.own 0 []] := by kernel_rfl
theorem ele29 : elemT Tryd.prog 29 = some 2 := by kernel_rfl
theorem elz29 : elemZ Tryd.prog 29 = some (2, 16) := by kernel_rfl
theorem con29 : concT Tryd.prog 29 = true := by kernel_rfl
-- 30: func() bool
theorem lay30 : layT Tryd.prog 30 = some (false, 1) := by kernel_rfl
theorem zer30 : zeroT Tryd.prog 30 = some [.v (.prim .nilFunc)] := by kernel_rfl
theorem con30 : concT Tryd.prog 30 = true := by kernel_rfl
-- 31: func([]int) bool
theorem lay31 : layT Tryd.prog 31 = some (false, 1) := by kernel_rfl
theorem zer31 : zeroT Tryd.prog 31 = some [.v (.prim .nilFunc)] := by kernel_rfl
theorem con31 : concT Tryd.prog 31 = true := by kernel_rfl
-- 32: struct { N int }
theorem lay32 : layT Tryd.prog 32 = some (true, 1) := by kernel_rfl
theorem zer32 : zeroT Tryd.prog 32 = some [.v (.prim (.int .i64 (0)))] := by kernel_rfl
theorem pla32 : placesT Tryd.prog 32 = some [(0, 1)] := by kernel_rfl
theorem con32 : concT Tryd.prog 32 = true := by kernel_rfl
theorem fld32_0 : fieldT Tryd.prog 32 0 = some (false, 0, 1) := by kernel_rfl
-- 33: proofprogramsplay.Sum
theorem lay33 : layT Tryd.prog 33 = some (true, 1) := by kernel_rfl
theorem zer33 : zeroT Tryd.prog 33 = some [.v (.prim (.int .i64 (0)))] := by kernel_rfl
theorem pla33 : placesT Tryd.prog 33 = some [(0, 1)] := by kernel_rfl
theorem con33 : concT Tryd.prog 33 = true := by kernel_rfl
theorem fld33_0 : fieldT Tryd.prog 33 0 = some (false, 0, 1) := by kernel_rfl
-- 34: func() proofprogramsplay.Sum
theorem lay34 : layT Tryd.prog 34 = some (false, 1) := by kernel_rfl
theorem zer34 : zeroT Tryd.prog 34 = some [.v (.prim .nilFunc)] := by kernel_rfl
theorem con34 : concT Tryd.prog 34 = true := by kernel_rfl
-- 35: func(...api.Term) proofprogramsplay.Sum
theorem lay35 : layT Tryd.prog 35 = some (false, 1) := by kernel_rfl
theorem zer35 : zeroT Tryd.prog 35 = some [.v (.prim .nilFunc)] := by kernel_rfl
theorem con35 : concT Tryd.prog 35 = true := by kernel_rfl
-- 36: *proofprogramsmake.Deck
theorem lay36 : layT Tryd.prog 36 = some (false, 1) := by kernel_rfl
theorem zer36 : zeroT Tryd.prog 36 = some [.v (.prim (.pointer none))] := by kernel_rfl
theorem con36 : concT Tryd.prog 36 = true := by kernel_rfl
-- 37: func([]int) *proofprogramsmake.Deck
theorem lay37 : layT Tryd.prog 37 = some (false, 1) := by kernel_rfl
theorem zer37 : zeroT Tryd.prog 37 = some [.v (.prim .nilFunc)] := by kernel_rfl
theorem con37 : concT Tryd.prog 37 = true := by kernel_rfl
-- 38: func(*proofprogramsmake.Deck, []api.Type, api.Type, int) api.Term
theorem lay38 : layT Tryd.prog 38 = some (false, 1) := by kernel_rfl
theorem zer38 : zeroT Tryd.prog 38 = some [.v (.prim .nilFunc)] := by kernel_rfl
theorem con38 : concT Tryd.prog 38 = true := by kernel_rfl
-- 39: func(*proofprogramsmake.Deck) []api.Type
theorem lay39 : layT Tryd.prog 39 = some (false, 1) := by kernel_rfl
theorem zer39 : zeroT Tryd.prog 39 = some [.v (.prim .nilFunc)] := by kernel_rfl
theorem con39 : concT Tryd.prog 39 = true := by kernel_rfl
-- 40: func(*proofprogramsmake.Deck, int) api.Type
theorem lay40 : layT Tryd.prog 40 = some (false, 1) := by kernel_rfl
theorem zer40 : zeroT Tryd.prog 40 = some [.v (.prim .nilFunc)] := by kernel_rfl
theorem con40 : concT Tryd.prog 40 = true := by kernel_rfl
-- 41: api.Errno
theorem lay41 : layT Tryd.prog 41 = some (false, 1) := by kernel_rfl
theorem zer41 : zeroT Tryd.prog 41 = some [.v (.prim (.int .i64 (0)))] := by kernel_rfl
theorem con41 : concT Tryd.prog 41 = true := by kernel_rfl
theorem int41 : intT Tryd.prog 41 = some .i64 := by kernel_rfl
-- 42: ([]api.Instr, api.Errno)
theorem lay42 : layT Tryd.prog 42 = some (false, 1) := by kernel_rfl
theorem con42 : concT Tryd.prog 42 = true := by kernel_rfl
-- 43: func(api.Term) ([]api.Instr, api.Errno)
theorem lay43 : layT Tryd.prog 43 = some (false, 1) := by kernel_rfl
theorem zer43 : zeroT Tryd.prog 43 = some [.v (.prim .nilFunc)] := by kernel_rfl
theorem con43 : concT Tryd.prog 43 = true := by kernel_rfl
-- 44: func([]api.Instr, []api.Instr) bool
theorem lay44 : layT Tryd.prog 44 = some (false, 1) := by kernel_rfl
theorem zer44 : zeroT Tryd.prog 44 = some [.v (.prim .nilFunc)] := by kernel_rfl
theorem con44 : concT Tryd.prog 44 = true := by kernel_rfl
-- 45: struct { Op int; A int }
theorem lay45 : layT Tryd.prog 45 = some (true, 2) := by kernel_rfl
theorem zer45 : zeroT Tryd.prog 45 = some [.v (.prim (.int .i64 (0))), .v (.prim (.int .i64 (0)))] := by kernel_rfl
theorem pla45 : placesT Tryd.prog 45 = some [(0, 1), (1, 1)] := by kernel_rfl
theorem con45 : concT Tryd.prog 45 = true := by kernel_rfl
theorem fld45_0 : fieldT Tryd.prog 45 0 = some (false, 0, 1) := by kernel_rfl
theorem fld45_1 : fieldT Tryd.prog 45 1 = some (false, 1, 1) := by kernel_rfl
-- 46: api.Instr
theorem lay46 : layT Tryd.prog 46 = some (true, 2) := by kernel_rfl
theorem zer46 : zeroT Tryd.prog 46 = some [.v (.prim (.int .i64 (0))), .v (.prim (.int .i64 (0)))] := by kernel_rfl
theorem pla46 : placesT Tryd.prog 46 = some [(0, 1), (1, 1)] := by kernel_rfl
theorem con46 : concT Tryd.prog 46 = true := by kernel_rfl
theorem fld46_0 : fieldT Tryd.prog 46 0 = some (false, 0, 1) := by kernel_rfl
theorem fld46_1 : fieldT Tryd.prog 46 1 = some (false, 1, 1) := by kernel_rfl
-- 47: func(*proofprogramsmake.Deck) []api.Instr
theorem lay47 : layT Tryd.prog 47 = some (false, 1) := by kernel_rfl
theorem zer47 : zeroT Tryd.prog 47 = some [.v (.prim .nilFunc)] := by kernel_rfl
theorem con47 : concT Tryd.prog 47 = true := by kernel_rfl
-- 48: [][]api.Instr
theorem lay48 : layT Tryd.prog 48 = some (false, 1) := by kernel_rfl
theorem zer48 : zeroT Tryd.prog 48 = some [.own 0 []] := by kernel_rfl
theorem ele48 : elemT Tryd.prog 48 = some 1 := by kernel_rfl
theorem elz48 : elemZ Tryd.prog 48 = some (1, 24) := by kernel_rfl
theorem con48 : concT Tryd.prog 48 = true := by kernel_rfl
-- 49: (api.Term, api.Errno)
theorem lay49 : layT Tryd.prog 49 = some (false, 1) := by kernel_rfl
theorem con49 : concT Tryd.prog 49 = true := by kernel_rfl
-- 50: func([]api.Instr) (api.Term, api.Errno)
theorem lay50 : layT Tryd.prog 50 = some (false, 1) := by kernel_rfl
theorem zer50 : zeroT Tryd.prog 50 = some [.v (.prim .nilFunc)] := by kernel_rfl
theorem con50 : concT Tryd.prog 50 = true := by kernel_rfl
-- 51: func([]api.Instr) api.Errno
theorem lay51 : layT Tryd.prog 51 = some (false, 1) := by kernel_rfl
theorem zer51 : zeroT Tryd.prog 51 = some [.v (.prim .nilFunc)] := by kernel_rfl
theorem con51 : concT Tryd.prog 51 = true := by kernel_rfl
-- 52: func(api.Term, api.Term) bool
theorem lay52 : layT Tryd.prog 52 = some (false, 1) := by kernel_rfl
theorem zer52 : zeroT Tryd.prog 52 = some [.v (.prim .nilFunc)] := by kernel_rfl
theorem con52 : concT Tryd.prog 52 = true := by kernel_rfl
-- 53: func([]int, api.Term, []api.Instr) bool
theorem lay53 : layT Tryd.prog 53 = some (false, 1) := by kernel_rfl
theorem zer53 : zeroT Tryd.prog 53 = some [.v (.prim .nilFunc)] := by kernel_rfl
theorem con53 : concT Tryd.prog 53 = true := by kernel_rfl
-- 54: (int, api.Errno)
theorem lay54 : layT Tryd.prog 54 = some (false, 1) := by kernel_rfl
theorem con54 : concT Tryd.prog 54 = true := by kernel_rfl
-- 55: func(api.Term) (int, api.Errno)
theorem lay55 : layT Tryd.prog 55 = some (false, 1) := by kernel_rfl
theorem zer55 : zeroT Tryd.prog 55 = some [.v (.prim .nilFunc)] := by kernel_rfl
theorem con55 : concT Tryd.prog 55 = true := by kernel_rfl
-- 56: func(api.Term) api.Term
theorem lay56 : layT Tryd.prog 56 = some (false, 1) := by kernel_rfl
theorem zer56 : zeroT Tryd.prog 56 = some [.v (.prim .nilFunc)] := by kernel_rfl
theorem con56 : concT Tryd.prog 56 = true := by kernel_rfl
-- 57: func(int) int
theorem lay57 : layT Tryd.prog 57 = some (false, 1) := by kernel_rfl
theorem zer57 : zeroT Tryd.prog 57 = some [.v (.prim .nilFunc)] := by kernel_rfl
theorem con57 : concT Tryd.prog 57 = true := by kernel_rfl
-- 58: func(api.Errno) bool
theorem lay58 : layT Tryd.prog 58 = some (false, 1) := by kernel_rfl
theorem zer58 : zeroT Tryd.prog 58 = some [.v (.prim .nilFunc)] := by kernel_rfl
theorem con58 : concT Tryd.prog 58 = true := by kernel_rfl
-- 59: func(int, ...api.Term) api.Term
theorem lay59 : layT Tryd.prog 59 = some (false, 1) := by kernel_rfl
theorem zer59 : zeroT Tryd.prog 59 = some [.v (.prim .nilFunc)] := by kernel_rfl
theorem con59 : concT Tryd.prog 59 = true := by kernel_rfl
-- 60: func(*proofprogramsmake.Deck) api.Type
theorem lay60 : layT Tryd.prog 60 = some (false, 1) := by kernel_rfl
theorem zer60 : zeroT Tryd.prog 60 = some [.v (.prim .nilFunc)] := by kernel_rfl
theorem con60 : concT Tryd.prog 60 = true := by kernel_rfl
-- 61: []api.Value
theorem lay61 : layT Tryd.prog 61 = some (false, 1) := by kernel_rfl
theorem zer61 : zeroT Tryd.prog 61 = some [.own 0 []] := by kernel_rfl
theorem ele61 : elemT Tryd.prog 61 = some 4 := by kernel_rfl
theorem elz61 : elemZ Tryd.prog 61 = some (4, 64) := by kernel_rfl
theorem con61 : concT Tryd.prog 61 = true := by kernel_rfl
-- 62: struct { Kind int; Num int; List []int; Args []api.Value }
theorem lay62 : layT Tryd.prog 62 = some (true, 4) := by kernel_rfl
theorem zer62 : zeroT Tryd.prog 62 = some [.v (.prim (.int .i64 (0))), .v (.prim (.int .i64 (0))), .own 0 [], .own 0 []] := by kernel_rfl
theorem pla62 : placesT Tryd.prog 62 = some [(0, 1), (1, 1), (2, 1), (3, 1)] := by kernel_rfl
theorem con62 : concT Tryd.prog 62 = true := by kernel_rfl
theorem fld62_0 : fieldT Tryd.prog 62 0 = some (false, 0, 1) := by kernel_rfl
theorem fld62_1 : fieldT Tryd.prog 62 1 = some (false, 1, 1) := by kernel_rfl
theorem fld62_2 : fieldT Tryd.prog 62 2 = some (false, 2, 1) := by kernel_rfl
theorem fld62_3 : fieldT Tryd.prog 62 3 = some (false, 3, 1) := by kernel_rfl
-- 63: api.Value
theorem lay63 : layT Tryd.prog 63 = some (true, 4) := by kernel_rfl
theorem zer63 : zeroT Tryd.prog 63 = some [.v (.prim (.int .i64 (0))), .v (.prim (.int .i64 (0))), .own 0 [], .own 0 []] := by kernel_rfl
theorem pla63 : placesT Tryd.prog 63 = some [(0, 1), (1, 1), (2, 1), (3, 1)] := by kernel_rfl
theorem con63 : concT Tryd.prog 63 = true := by kernel_rfl
theorem fld63_0 : fieldT Tryd.prog 63 0 = some (false, 0, 1) := by kernel_rfl
theorem fld63_1 : fieldT Tryd.prog 63 1 = some (false, 1, 1) := by kernel_rfl
theorem fld63_2 : fieldT Tryd.prog 63 2 = some (false, 2, 1) := by kernel_rfl
theorem fld63_3 : fieldT Tryd.prog 63 3 = some (false, 3, 1) := by kernel_rfl
-- 64: func(*proofprogramsmake.Deck, api.Type) api.Value
theorem lay64 : layT Tryd.prog 64 = some (false, 1) := by kernel_rfl
theorem zer64 : zeroT Tryd.prog 64 = some [.v (.prim .nilFunc)] := by kernel_rfl
theorem con64 : concT Tryd.prog 64 = true := by kernel_rfl
-- 65: func(api.Value) (api.Term, api.Errno)
theorem lay65 : layT Tryd.prog 65 = some (false, 1) := by kernel_rfl
theorem zer65 : zeroT Tryd.prog 65 = some [.v (.prim .nilFunc)] := by kernel_rfl
theorem con65 : concT Tryd.prog 65 = true := by kernel_rfl
-- 66: (api.Value, api.Errno)
theorem lay66 : layT Tryd.prog 66 = some (false, 1) := by kernel_rfl
theorem con66 : concT Tryd.prog 66 = true := by kernel_rfl
-- 67: func(api.Term) (api.Value, api.Errno)
theorem lay67 : layT Tryd.prog 67 = some (false, 1) := by kernel_rfl
theorem zer67 : zeroT Tryd.prog 67 = some [.v (.prim .nilFunc)] := by kernel_rfl
theorem con67 : concT Tryd.prog 67 = true := by kernel_rfl
-- 68: (api.Type, api.Errno)
theorem lay68 : layT Tryd.prog 68 = some (false, 1) := by kernel_rfl
theorem con68 : concT Tryd.prog 68 = true := by kernel_rfl
-- 69: func(api.Value) (api.Type, api.Errno)
theorem lay69 : layT Tryd.prog 69 = some (false, 1) := by kernel_rfl
theorem zer69 : zeroT Tryd.prog 69 = some [.v (.prim .nilFunc)] := by kernel_rfl
theorem con69 : concT Tryd.prog 69 = true := by kernel_rfl
-- 70: func([]api.Type, api.Term) (api.Type, api.Errno)
theorem lay70 : layT Tryd.prog 70 = some (false, 1) := by kernel_rfl
theorem zer70 : zeroT Tryd.prog 70 = some [.v (.prim .nilFunc)] := by kernel_rfl
theorem con70 : concT Tryd.prog 70 = true := by kernel_rfl
-- 71: (api.Term, int, api.Errno)
theorem lay71 : layT Tryd.prog 71 = some (false, 1) := by kernel_rfl
theorem con71 : concT Tryd.prog 71 = true := by kernel_rfl
-- 72: func(api.Term, int) (api.Term, int, api.Errno)
theorem lay72 : layT Tryd.prog 72 = some (false, 1) := by kernel_rfl
theorem zer72 : zeroT Tryd.prog 72 = some [.v (.prim .nilFunc)] := by kernel_rfl
theorem con72 : concT Tryd.prog 72 = true := by kernel_rfl
-- 73: func(api.Value, api.Value) bool
theorem lay73 : layT Tryd.prog 73 = some (false, 1) := by kernel_rfl
theorem zer73 : zeroT Tryd.prog 73 = some [.v (.prim .nilFunc)] := by kernel_rfl
theorem con73 : concT Tryd.prog 73 = true := by kernel_rfl
-- 74: func(api.Type, api.Type) bool
theorem lay74 : layT Tryd.prog 74 = some (false, 1) := by kernel_rfl
theorem zer74 : zeroT Tryd.prog 74 = some [.v (.prim .nilFunc)] := by kernel_rfl
theorem con74 : concT Tryd.prog 74 = true := by kernel_rfl
-- 75: func(int) (api.Term, api.Errno)
theorem lay75 : layT Tryd.prog 75 = some (false, 1) := by kernel_rfl
theorem zer75 : zeroT Tryd.prog 75 = some [.v (.prim .nilFunc)] := by kernel_rfl
theorem con75 : concT Tryd.prog 75 = true := by kernel_rfl
-- 76: func(api.Term, ...api.Term) api.Term
theorem lay76 : layT Tryd.prog 76 = some (false, 1) := by kernel_rfl
theorem zer76 : zeroT Tryd.prog 76 = some [.v (.prim .nilFunc)] := by kernel_rfl
theorem con76 : concT Tryd.prog 76 = true := by kernel_rfl
-- 77: func() api.Term
theorem lay77 : layT Tryd.prog 77 = some (false, 1) := by kernel_rfl
theorem zer77 : zeroT Tryd.prog 77 = some [.v (.prim .nilFunc)] := by kernel_rfl
theorem con77 : concT Tryd.prog 77 = true := by kernel_rfl
-- 78: struct { t api.Term; want int }
theorem lay78 : layT Tryd.prog 78 = some (true, 6) := by kernel_rfl
theorem zer78 : zeroT Tryd.prog 78 = some [.v (.prim (.int .i64 (0))), .v (.prim (.int .i64 (0))), .v (.prim (.int .i64 (0))), .own 0 [], .own 0 [], .v (.prim (.int .i64 (0)))] := by kernel_rfl
theorem pla78 : placesT Tryd.prog 78 = some [(0, 5), (5, 1)] := by kernel_rfl
theorem con78 : concT Tryd.prog 78 = true := by kernel_rfl
theorem fld78_0 : fieldT Tryd.prog 78 0 = some (true, 0, 5) := by kernel_rfl
theorem fld78_1 : fieldT Tryd.prog 78 1 = some (false, 5, 1) := by kernel_rfl
-- 79: []struct { t api.Term; want int }
theorem lay79 : layT Tryd.prog 79 = some (false, 1) := by kernel_rfl
theorem zer79 : zeroT Tryd.prog 79 = some [.own 0 []] := by kernel_rfl
theorem ele79 : elemT Tryd.prog 79 = some 6 := by kernel_rfl
theorem elz79 : elemZ Tryd.prog 79 = some (6, 80) := by kernel_rfl
theorem con79 : concT Tryd.prog 79 = true := by kernel_rfl
-- 80: func(uint8, uint8) bool
theorem lay80 : layT Tryd.prog 80 = some (false, 1) := by kernel_rfl
theorem zer80 : zeroT Tryd.prog 80 = some [.v (.prim .nilFunc)] := by kernel_rfl
theorem con80 : concT Tryd.prog 80 = true := by kernel_rfl
-- 81: func(api.Term, int) int
theorem lay81 : layT Tryd.prog 81 = some (false, 1) := by kernel_rfl
theorem zer81 : zeroT Tryd.prog 81 = some [.v (.prim .nilFunc)] := by kernel_rfl
theorem con81 : concT Tryd.prog 81 = true := by kernel_rfl
-- 82: struct { L []int; At int }
theorem lay82 : layT Tryd.prog 82 = some (true, 2) := by kernel_rfl
theorem zer82 : zeroT Tryd.prog 82 = some [.own 0 [], .v (.prim (.int .i64 (0)))] := by kernel_rfl
theorem pla82 : placesT Tryd.prog 82 = some [(0, 1), (1, 1)] := by kernel_rfl
theorem con82 : concT Tryd.prog 82 = true := by kernel_rfl
theorem fld82_0 : fieldT Tryd.prog 82 0 = some (false, 0, 1) := by kernel_rfl
theorem fld82_1 : fieldT Tryd.prog 82 1 = some (false, 1, 1) := by kernel_rfl
-- 83: proofprogramsmake.Deck
theorem lay83 : layT Tryd.prog 83 = some (true, 2) := by kernel_rfl
theorem zer83 : zeroT Tryd.prog 83 = some [.own 0 [], .v (.prim (.int .i64 (0)))] := by kernel_rfl
theorem pla83 : placesT Tryd.prog 83 = some [(0, 1), (1, 1)] := by kernel_rfl
theorem con83 : concT Tryd.prog 83 = true := by kernel_rfl
theorem fld83_0 : fieldT Tryd.prog 83 0 = some (false, 0, 1) := by kernel_rfl
theorem fld83_1 : fieldT Tryd.prog 83 1 = some (false, 1, 1) := by kernel_rfl
-- 84: func([]api.Type, api.Type) []int
theorem lay84 : layT Tryd.prog 84 = some (false, 1) := by kernel_rfl
theorem zer84 : zeroT Tryd.prog 84 = some [.v (.prim .nilFunc)] := by kernel_rfl
theorem con84 : concT Tryd.prog 84 = true := by kernel_rfl
-- 85: func(int) api.Term
theorem lay85 : layT Tryd.prog 85 = some (false, 1) := by kernel_rfl
theorem zer85 : zeroT Tryd.prog 85 = some [.v (.prim .nilFunc)] := by kernel_rfl
theorem con85 : concT Tryd.prog 85 = true := by kernel_rfl
-- 86: func(int, api.Type, ...api.Term) api.Term
theorem lay86 : layT Tryd.prog 86 = some (false, 1) := by kernel_rfl
theorem zer86 : zeroT Tryd.prog 86 = some [.v (.prim .nilFunc)] := by kernel_rfl
theorem con86 : concT Tryd.prog 86 = true := by kernel_rfl
-- 87: func([]api.Type, ...api.Type) []api.Type
theorem lay87 : layT Tryd.prog 87 = some (false, 1) := by kernel_rfl
theorem zer87 : zeroT Tryd.prog 87 = some [.v (.prim .nilFunc)] := by kernel_rfl
theorem con87 : concT Tryd.prog 87 = true := by kernel_rfl
-- 88: func() api.Type
theorem lay88 : layT Tryd.prog 88 = some (false, 1) := by kernel_rfl
theorem zer88 : zeroT Tryd.prog 88 = some [.v (.prim .nilFunc)] := by kernel_rfl
theorem con88 : concT Tryd.prog 88 = true := by kernel_rfl
-- 89: func(api.Type, api.Type) api.Type
theorem lay89 : layT Tryd.prog 89 = some (false, 1) := by kernel_rfl
theorem zer89 : zeroT Tryd.prog 89 = some [.v (.prim .nilFunc)] := by kernel_rfl
theorem con89 : concT Tryd.prog 89 = true := by kernel_rfl
-- 90: func(api.Term) api.Errno
theorem lay90 : layT Tryd.prog 90 = some (false, 1) := by kernel_rfl
theorem zer90 : zeroT Tryd.prog 90 = some [.v (.prim .nilFunc)] := by kernel_rfl
theorem con90 : concT Tryd.prog 90 = true := by kernel_rfl
-- 91: func(api.Term)
theorem lay91 : layT Tryd.prog 91 = some (false, 1) := by kernel_rfl
theorem zer91 : zeroT Tryd.prog 91 = some [.v (.prim .nilFunc)] := by kernel_rfl
theorem con91 : concT Tryd.prog 91 = true := by kernel_rfl
-- 92: *proofprogramsref37.maker
theorem lay92 : layT Tryd.prog 92 = some (false, 1) := by kernel_rfl
theorem zer92 : zeroT Tryd.prog 92 = some [.v (.prim (.pointer none))] := by kernel_rfl
theorem con92 : concT Tryd.prog 92 = true := by kernel_rfl
-- 93: struct { code []api.Instr; bodies []api.Term; places []int }
theorem lay93 : layT Tryd.prog 93 = some (true, 3) := by kernel_rfl
theorem zer93 : zeroT Tryd.prog 93 = some [.own 0 [], .own 0 [], .own 0 []] := by kernel_rfl
theorem pla93 : placesT Tryd.prog 93 = some [(0, 1), (1, 1), (2, 1)] := by kernel_rfl
theorem con93 : concT Tryd.prog 93 = true := by kernel_rfl
theorem fld93_0 : fieldT Tryd.prog 93 0 = some (false, 0, 1) := by kernel_rfl
theorem fld93_1 : fieldT Tryd.prog 93 1 = some (false, 1, 1) := by kernel_rfl
theorem fld93_2 : fieldT Tryd.prog 93 2 = some (false, 2, 1) := by kernel_rfl
-- 94: proofprogramsref37.maker
theorem lay94 : layT Tryd.prog 94 = some (true, 3) := by kernel_rfl
theorem zer94 : zeroT Tryd.prog 94 = some [.own 0 [], .own 0 [], .own 0 []] := by kernel_rfl
theorem pla94 : placesT Tryd.prog 94 = some [(0, 1), (1, 1), (2, 1)] := by kernel_rfl
theorem con94 : concT Tryd.prog 94 = true := by kernel_rfl
theorem fld94_0 : fieldT Tryd.prog 94 0 = some (false, 0, 1) := by kernel_rfl
theorem fld94_1 : fieldT Tryd.prog 94 1 = some (false, 1, 1) := by kernel_rfl
theorem fld94_2 : fieldT Tryd.prog 94 2 = some (false, 2, 1) := by kernel_rfl
-- 95: func(int, int)
theorem lay95 : layT Tryd.prog 95 = some (false, 1) := by kernel_rfl
theorem zer95 : zeroT Tryd.prog 95 = some [.v (.prim .nilFunc)] := by kernel_rfl
theorem con95 : concT Tryd.prog 95 = true := by kernel_rfl
-- 96: (api.Term, api.Type)
theorem lay96 : layT Tryd.prog 96 = some (false, 1) := by kernel_rfl
theorem con96 : concT Tryd.prog 96 = true := by kernel_rfl
-- 97: func(*proofprogramsmake.Deck) (api.Term, api.Type)
theorem lay97 : layT Tryd.prog 97 = some (false, 1) := by kernel_rfl
theorem zer97 : zeroT Tryd.prog 97 = some [.v (.prim .nilFunc)] := by kernel_rfl
theorem con97 : concT Tryd.prog 97 = true := by kernel_rfl
-- 98: ([]int, bool)
theorem lay98 : layT Tryd.prog 98 = some (false, 1) := by kernel_rfl
theorem con98 : concT Tryd.prog 98 = true := by kernel_rfl
-- 99: func([]api.Instr) ([]int, bool)
theorem lay99 : layT Tryd.prog 99 = some (false, 1) := by kernel_rfl
theorem zer99 : zeroT Tryd.prog 99 = some [.v (.prim .nilFunc)] := by kernel_rfl
theorem con99 : concT Tryd.prog 99 = true := by kernel_rfl
-- 100: map[int]api.Term
theorem lay100 : layT Tryd.prog 100 = some (false, 1) := by kernel_rfl
theorem zer100 : zeroT Tryd.prog 100 = some [.v (.prim (.map none))] := by kernel_rfl
theorem con100 : concT Tryd.prog 100 = true := by kernel_rfl
-- 101: struct { takes int; term int }
theorem lay101 : layT Tryd.prog 101 = some (true, 2) := by kernel_rfl
theorem zer101 : zeroT Tryd.prog 101 = some [.v (.prim (.int .i64 (0))), .v (.prim (.int .i64 (0)))] := by kernel_rfl
theorem pla101 : placesT Tryd.prog 101 = some [(0, 1), (1, 1)] := by kernel_rfl
theorem con101 : concT Tryd.prog 101 = true := by kernel_rfl
theorem fld101_0 : fieldT Tryd.prog 101 0 = some (false, 0, 1) := by kernel_rfl
theorem fld101_1 : fieldT Tryd.prog 101 1 = some (false, 1, 1) := by kernel_rfl
-- 102: code.op
theorem lay102 : layT Tryd.prog 102 = some (true, 2) := by kernel_rfl
theorem zer102 : zeroT Tryd.prog 102 = some [.v (.prim (.int .i64 (0))), .v (.prim (.int .i64 (0)))] := by kernel_rfl
theorem pla102 : placesT Tryd.prog 102 = some [(0, 1), (1, 1)] := by kernel_rfl
theorem con102 : concT Tryd.prog 102 = true := by kernel_rfl
theorem fld102_0 : fieldT Tryd.prog 102 0 = some (false, 0, 1) := by kernel_rfl
theorem fld102_1 : fieldT Tryd.prog 102 1 = some (false, 1, 1) := by kernel_rfl
-- 103: [14]code.op
theorem lay103 : layT Tryd.prog 103 = some (true, 28) := by kernel_rfl
theorem zer103 : zeroT Tryd.prog 103 = some [.v (.prim (.int .i64 (0))), .v (.prim (.int .i64 (0))), .v (.prim (.int .i64 (0))), .v (.prim (.int .i64 (0))), .v (.prim (.int .i64 (0))), .v (.prim (.int .i64 (0))), .v (.prim (.int .i64 (0))), .v (.prim (.int .i64 (0))), .v (.prim (.int .i64 (0))), .v (.prim (.int .i64 (0))), .v (.prim (.int .i64 (0))), .v (.prim (.int .i64 (0))), .v (.prim (.int .i64 (0))), .v (.prim (.int .i64 (0))), .v (.prim (.int .i64 (0))), .v (.prim (.int .i64 (0))), .v (.prim (.int .i64 (0))), .v (.prim (.int .i64 (0))), .v (.prim (.int .i64 (0))), .v (.prim (.int .i64 (0))), .v (.prim (.int .i64 (0))), .v (.prim (.int .i64 (0))), .v (.prim (.int .i64 (0))), .v (.prim (.int .i64 (0))), .v (.prim (.int .i64 (0))), .v (.prim (.int .i64 (0))), .v (.prim (.int .i64 (0))), .v (.prim (.int .i64 (0)))] := by kernel_rfl
theorem eln103 : elemT Tryd.prog 103 = none := by kernel_rfl
theorem arr103 : arrT Tryd.prog 103 = some (14, 2) := by kernel_rfl
theorem pla103 : placesT Tryd.prog 103 = some [(0, 2), (2, 2), (4, 2), (6, 2), (8, 2), (10, 2), (12, 2), (14, 2), (16, 2), (18, 2), (20, 2), (22, 2), (24, 2), (26, 2)] := by kernel_rfl
theorem con103 : concT Tryd.prog 103 = true := by kernel_rfl
-- 104: (api.Term, bool)
theorem lay104 : layT Tryd.prog 104 = some (false, 1) := by kernel_rfl
theorem con104 : concT Tryd.prog 104 = true := by kernel_rfl
-- 105: func([]api.Instr, int) (api.Term, bool)
theorem lay105 : layT Tryd.prog 105 = some (false, 1) := by kernel_rfl
theorem zer105 : zeroT Tryd.prog 105 = some [.v (.prim .nilFunc)] := by kernel_rfl
theorem con105 : concT Tryd.prog 105 = true := by kernel_rfl
-- 106: func([]api.Instr) bool
theorem lay106 : layT Tryd.prog 106 = some (false, 1) := by kernel_rfl
theorem zer106 : zeroT Tryd.prog 106 = some [.v (.prim .nilFunc)] := by kernel_rfl
theorem con106 : concT Tryd.prog 106 = true := by kernel_rfl
-- 107: func(api.Term) int
theorem lay107 : layT Tryd.prog 107 = some (false, 1) := by kernel_rfl
theorem zer107 : zeroT Tryd.prog 107 = some [.v (.prim .nilFunc)] := by kernel_rfl
theorem con107 : concT Tryd.prog 107 = true := by kernel_rfl
-- 108: func(int, int) int
theorem lay108 : layT Tryd.prog 108 = some (false, 1) := by kernel_rfl
theorem zer108 : zeroT Tryd.prog 108 = some [.v (.prim .nilFunc)] := by kernel_rfl
theorem con108 : concT Tryd.prog 108 = true := by kernel_rfl
-- 109: func(api.Value) api.Errno
theorem lay109 : layT Tryd.prog 109 = some (false, 1) := by kernel_rfl
theorem zer109 : zeroT Tryd.prog 109 = some [.v (.prim .nilFunc)] := by kernel_rfl
theorem con109 : concT Tryd.prog 109 = true := by kernel_rfl
-- 110: func(api.Value) int
theorem lay110 : layT Tryd.prog 110 = some (false, 1) := by kernel_rfl
theorem zer110 : zeroT Tryd.prog 110 = some [.v (.prim .nilFunc)] := by kernel_rfl
theorem con110 : concT Tryd.prog 110 = true := by kernel_rfl
-- 111: func(api.Value) api.Term
theorem lay111 : layT Tryd.prog 111 = some (false, 1) := by kernel_rfl
theorem zer111 : zeroT Tryd.prog 111 = some [.v (.prim .nilFunc)] := by kernel_rfl
theorem con111 : concT Tryd.prog 111 = true := by kernel_rfl
-- 112: (api.Value, bool)
theorem lay112 : layT Tryd.prog 112 = some (false, 1) := by kernel_rfl
theorem con112 : concT Tryd.prog 112 = true := by kernel_rfl
-- 113: func(api.Term) (api.Value, bool)
theorem lay113 : layT Tryd.prog 113 = some (false, 1) := by kernel_rfl
theorem zer113 : zeroT Tryd.prog 113 = some [.v (.prim .nilFunc)] := by kernel_rfl
theorem con113 : concT Tryd.prog 113 = true := by kernel_rfl
-- 114: (int, bool)
theorem lay114 : layT Tryd.prog 114 = some (false, 1) := by kernel_rfl
theorem con114 : concT Tryd.prog 114 = true := by kernel_rfl
-- 115: func(api.Value) (int, bool)
theorem lay115 : layT Tryd.prog 115 = some (false, 1) := by kernel_rfl
theorem zer115 : zeroT Tryd.prog 115 = some [.v (.prim .nilFunc)] := by kernel_rfl
theorem con115 : concT Tryd.prog 115 = true := by kernel_rfl
-- 116: func(api.Value) api.Type
theorem lay116 : layT Tryd.prog 116 = some (false, 1) := by kernel_rfl
theorem zer116 : zeroT Tryd.prog 116 = some [.v (.prim .nilFunc)] := by kernel_rfl
theorem con116 : concT Tryd.prog 116 = true := by kernel_rfl
-- 117: func([]api.Type) api.Errno
theorem lay117 : layT Tryd.prog 117 = some (false, 1) := by kernel_rfl
theorem zer117 : zeroT Tryd.prog 117 = some [.v (.prim .nilFunc)] := by kernel_rfl
theorem con117 : concT Tryd.prog 117 = true := by kernel_rfl
-- 118: func(api.Term, int) bool
theorem lay118 : layT Tryd.prog 118 = some (false, 1) := by kernel_rfl
theorem zer118 : zeroT Tryd.prog 118 = some [.v (.prim .nilFunc)] := by kernel_rfl
theorem con118 : concT Tryd.prog 118 = true := by kernel_rfl
-- 119: (api.Term, bool, bool)
theorem lay119 : layT Tryd.prog 119 = some (false, 1) := by kernel_rfl
theorem con119 : concT Tryd.prog 119 = true := by kernel_rfl
-- 120: func(api.Term, int) (api.Term, bool, bool)
theorem lay120 : layT Tryd.prog 120 = some (false, 1) := by kernel_rfl
theorem zer120 : zeroT Tryd.prog 120 = some [.v (.prim .nilFunc)] := by kernel_rfl
theorem con120 : concT Tryd.prog 120 = true := by kernel_rfl
-- 121: func([]int, []int) bool
theorem lay121 : layT Tryd.prog 121 = some (false, 1) := by kernel_rfl
theorem zer121 : zeroT Tryd.prog 121 = some [.v (.prim .nilFunc)] := by kernel_rfl
theorem con121 : concT Tryd.prog 121 = true := by kernel_rfl
-- 122: func(api.Term, ...api.Type) api.Term
theorem lay122 : layT Tryd.prog 122 = some (false, 1) := by kernel_rfl
theorem zer122 : zeroT Tryd.prog 122 = some [.v (.prim .nilFunc)] := by kernel_rfl
theorem con122 : concT Tryd.prog 122 = true := by kernel_rfl
-- 123: func(api.Term, api.Term, api.Term) api.Term
theorem lay123 : layT Tryd.prog 123 = some (false, 1) := by kernel_rfl
theorem zer123 : zeroT Tryd.prog 123 = some [.v (.prim .nilFunc)] := by kernel_rfl
theorem con123 : concT Tryd.prog 123 = true := by kernel_rfl
-- 124: func(api.Type, int) int
theorem lay124 : layT Tryd.prog 124 = some (false, 1) := by kernel_rfl
theorem zer124 : zeroT Tryd.prog 124 = some [.v (.prim .nilFunc)] := by kernel_rfl
theorem con124 : concT Tryd.prog 124 = true := by kernel_rfl
-- 125: func(api.Type) api.Type
theorem lay125 : layT Tryd.prog 125 = some (false, 1) := by kernel_rfl
theorem zer125 : zeroT Tryd.prog 125 = some [.v (.prim .nilFunc)] := by kernel_rfl
theorem con125 : concT Tryd.prog 125 = true := by kernel_rfl
-- 126: func(api.Term) bool
theorem lay126 : layT Tryd.prog 126 = some (false, 1) := by kernel_rfl
theorem zer126 : zeroT Tryd.prog 126 = some [.v (.prim .nilFunc)] := by kernel_rfl
theorem con126 : concT Tryd.prog 126 = true := by kernel_rfl
-- 127: func(api.Type, api.Term) api.Term
theorem lay127 : layT Tryd.prog 127 = some (false, 1) := by kernel_rfl
theorem zer127 : zeroT Tryd.prog 127 = some [.v (.prim .nilFunc)] := by kernel_rfl
theorem con127 : concT Tryd.prog 127 = true := by kernel_rfl
-- 128: (int, int)
theorem lay128 : layT Tryd.prog 128 = some (false, 1) := by kernel_rfl
theorem con128 : concT Tryd.prog 128 = true := by kernel_rfl
-- 129: func(int) (int, int)
theorem lay129 : layT Tryd.prog 129 = some (false, 1) := by kernel_rfl
theorem zer129 : zeroT Tryd.prog 129 = some [.v (.prim .nilFunc)] := by kernel_rfl
theorem con129 : concT Tryd.prog 129 = true := by kernel_rfl
-- 130: func([]api.Instr) []int
theorem lay130 : layT Tryd.prog 130 = some (false, 1) := by kernel_rfl
theorem zer130 : zeroT Tryd.prog 130 = some [.v (.prim .nilFunc)] := by kernel_rfl
theorem con130 : concT Tryd.prog 130 = true := by kernel_rfl
-- 131: func(func(int, int) bool)
theorem lay131 : layT Tryd.prog 131 = some (false, 1) := by kernel_rfl
theorem zer131 : zeroT Tryd.prog 131 = some [.v (.prim .nilFunc)] := by kernel_rfl
theorem con131 : concT Tryd.prog 131 = true := by kernel_rfl
-- 132: iter.Seq2[int,int]
theorem lay132 : layT Tryd.prog 132 = some (false, 1) := by kernel_rfl
theorem zer132 : zeroT Tryd.prog 132 = some [.v (.prim .nilFunc)] := by kernel_rfl
theorem con132 : concT Tryd.prog 132 = true := by kernel_rfl
-- 133: func([]int) iter.Seq2[int,int]
theorem lay133 : layT Tryd.prog 133 = some (false, 1) := by kernel_rfl
theorem zer133 : zeroT Tryd.prog 133 = some [.v (.prim .nilFunc)] := by kernel_rfl
theorem con133 : concT Tryd.prog 133 = true := by kernel_rfl
-- 134: func(api.Term) (int, bool)
theorem lay134 : layT Tryd.prog 134 = some (false, 1) := by kernel_rfl
theorem zer134 : zeroT Tryd.prog 134 = some [.v (.prim .nilFunc)] := by kernel_rfl
theorem con134 : concT Tryd.prog 134 = true := by kernel_rfl
-- 135: func(int) bool
theorem lay135 : layT Tryd.prog 135 = some (false, 1) := by kernel_rfl
theorem zer135 : zeroT Tryd.prog 135 = some [.v (.prim .nilFunc)] := by kernel_rfl
theorem con135 : concT Tryd.prog 135 = true := by kernel_rfl
-- 136: func([]int, func(int) bool) bool
theorem lay136 : layT Tryd.prog 136 = some (false, 1) := by kernel_rfl
theorem zer136 : zeroT Tryd.prog 136 = some [.v (.prim .nilFunc)] := by kernel_rfl
theorem con136 : concT Tryd.prog 136 = true := by kernel_rfl
-- 137: func(api.Type) api.Errno
theorem lay137 : layT Tryd.prog 137 = some (false, 1) := by kernel_rfl
theorem zer137 : zeroT Tryd.prog 137 = some [.v (.prim .nilFunc)] := by kernel_rfl
theorem con137 : concT Tryd.prog 137 = true := by kernel_rfl
-- 138: func(int, api.Type, api.Term, api.Term, api.Term) api.Term
theorem lay138 : layT Tryd.prog 138 = some (false, 1) := by kernel_rfl
theorem zer138 : zeroT Tryd.prog 138 = some [.v (.prim .nilFunc)] := by kernel_rfl
theorem con138 : concT Tryd.prog 138 = true := by kernel_rfl
-- 139: func(api.Type) bool
theorem lay139 : layT Tryd.prog 139 = some (false, 1) := by kernel_rfl
theorem zer139 : zeroT Tryd.prog 139 = some [.v (.prim .nilFunc)] := by kernel_rfl
theorem con139 : concT Tryd.prog 139 = true := by kernel_rfl
-- 140: func(int, int) bool
theorem lay140 : layT Tryd.prog 140 = some (false, 1) := by kernel_rfl
theorem zer140 : zeroT Tryd.prog 140 = some [.v (.prim .nilFunc)] := by kernel_rfl
theorem con140 : concT Tryd.prog 140 = true := by kernel_rfl
-- 141: func([]int, func(int) bool) int
theorem lay141 : layT Tryd.prog 141 = some (false, 1) := by kernel_rfl
theorem zer141 : zeroT Tryd.prog 141 = some [.v (.prim .nilFunc)] := by kernel_rfl
theorem con141 : concT Tryd.prog 141 = true := by kernel_rfl
-- 142: func(api.Type) int
theorem lay142 : layT Tryd.prog 142 = some (false, 1) := by kernel_rfl
theorem zer142 : zeroT Tryd.prog 142 = some [.v (.prim .nilFunc)] := by kernel_rfl
theorem con142 : concT Tryd.prog 142 = true := by kernel_rfl
-- 143: func(api.Type) (api.Type, api.Errno)
theorem lay143 : layT Tryd.prog 143 = some (false, 1) := by kernel_rfl
theorem zer143 : zeroT Tryd.prog 143 = some [.v (.prim .nilFunc)] := by kernel_rfl
theorem con143 : concT Tryd.prog 143 = true := by kernel_rfl
-- 144: func(api.Term, int, int, api.Term) api.Term
theorem lay144 : layT Tryd.prog 144 = some (false, 1) := by kernel_rfl
theorem zer144 : zeroT Tryd.prog 144 = some [.v (.prim .nilFunc)] := by kernel_rfl
theorem con144 : concT Tryd.prog 144 = true := by kernel_rfl
-- 145: func(int) (int, bool)
theorem lay145 : layT Tryd.prog 145 = some (false, 1) := by kernel_rfl
theorem zer145 : zeroT Tryd.prog 145 = some [.v (.prim .nilFunc)] := by kernel_rfl
theorem con145 : concT Tryd.prog 145 = true := by kernel_rfl
-- 146: func(api.Type) (int, api.Errno)
theorem lay146 : layT Tryd.prog 146 = some (false, 1) := by kernel_rfl
theorem zer146 : zeroT Tryd.prog 146 = some [.v (.prim .nilFunc)] := by kernel_rfl
theorem con146 : concT Tryd.prog 146 = true := by kernel_rfl
-- 147: func(api.Term, int, int) api.Term
theorem lay147 : layT Tryd.prog 147 = some (false, 1) := by kernel_rfl
theorem zer147 : zeroT Tryd.prog 147 = some [.v (.prim .nilFunc)] := by kernel_rfl
theorem con147 : concT Tryd.prog 147 = true := by kernel_rfl
-- 148: [14]int
theorem lay148 : layT Tryd.prog 148 = some (true, 14) := by kernel_rfl
theorem zer148 : zeroT Tryd.prog 148 = some [.v (.prim (.int .i64 (0))), .v (.prim (.int .i64 (0))), .v (.prim (.int .i64 (0))), .v (.prim (.int .i64 (0))), .v (.prim (.int .i64 (0))), .v (.prim (.int .i64 (0))), .v (.prim (.int .i64 (0))), .v (.prim (.int .i64 (0))), .v (.prim (.int .i64 (0))), .v (.prim (.int .i64 (0))), .v (.prim (.int .i64 (0))), .v (.prim (.int .i64 (0))), .v (.prim (.int .i64 (0))), .v (.prim (.int .i64 (0)))] := by kernel_rfl
theorem eln148 : elemT Tryd.prog 148 = none := by kernel_rfl
theorem arr148 : arrT Tryd.prog 148 = some (14, 1) := by kernel_rfl
theorem pla148 : placesT Tryd.prog 148 = some [(0, 1), (1, 1), (2, 1), (3, 1), (4, 1), (5, 1), (6, 1), (7, 1), (8, 1), (9, 1), (10, 1), (11, 1), (12, 1), (13, 1)] := by kernel_rfl
theorem con148 : concT Tryd.prog 148 = true := by kernel_rfl
-- 149: func(api.Type) (int, bool)
theorem lay149 : layT Tryd.prog 149 = some (false, 1) := by kernel_rfl
theorem zer149 : zeroT Tryd.prog 149 = some [.v (.prim .nilFunc)] := by kernel_rfl
theorem con149 : concT Tryd.prog 149 = true := by kernel_rfl
-- 150: func() string
theorem lay150 : layT Tryd.prog 150 = some (false, 1) := by kernel_rfl
theorem zer150 : zeroT Tryd.prog 150 = some [.v (.prim .nilFunc)] := by kernel_rfl
theorem con150 : concT Tryd.prog 150 = true := by kernel_rfl
-- 151: struct { _interface *abi.Type; concrete *abi.Type; asserted *abi.Type; missingMethod string }
theorem lay151 : layT Tryd.prog 151 = some (true, 4) := by kernel_rfl
theorem zer151 : zeroT Tryd.prog 151 = some [.v (.prim (.pointer none)), .v (.prim (.pointer none)), .v (.prim (.pointer none)), .v (.prim (.string ByteArray.empty))] := by kernel_rfl
theorem pla151 : placesT Tryd.prog 151 = some [(0, 1), (1, 1), (2, 1), (3, 1)] := by kernel_rfl
theorem con151 : concT Tryd.prog 151 = true := by kernel_rfl
theorem fld151_0 : fieldT Tryd.prog 151 0 = some (false, 0, 1) := by kernel_rfl
theorem fld151_1 : fieldT Tryd.prog 151 1 = some (false, 1, 1) := by kernel_rfl
theorem fld151_2 : fieldT Tryd.prog 151 2 = some (false, 2, 1) := by kernel_rfl
theorem fld151_3 : fieldT Tryd.prog 151 3 = some (false, 3, 1) := by kernel_rfl
-- 152: runtime.TypeAssertionError
theorem lay152 : layT Tryd.prog 152 = some (true, 4) := by kernel_rfl
theorem zer152 : zeroT Tryd.prog 152 = some [.v (.prim (.pointer none)), .v (.prim (.pointer none)), .v (.prim (.pointer none)), .v (.prim (.string ByteArray.empty))] := by kernel_rfl
theorem pla152 : placesT Tryd.prog 152 = some [(0, 1), (1, 1), (2, 1), (3, 1)] := by kernel_rfl
theorem con152 : concT Tryd.prog 152 = true := by kernel_rfl
theorem fld152_0 : fieldT Tryd.prog 152 0 = some (false, 0, 1) := by kernel_rfl
theorem fld152_1 : fieldT Tryd.prog 152 1 = some (false, 1, 1) := by kernel_rfl
theorem fld152_2 : fieldT Tryd.prog 152 2 = some (false, 2, 1) := by kernel_rfl
theorem fld152_3 : fieldT Tryd.prog 152 3 = some (false, 3, 1) := by kernel_rfl
-- 153: [0]*runtime.PanicNilError
theorem lay153 : layT Tryd.prog 153 = some (true, 0) := by kernel_rfl
theorem zer153 : zeroT Tryd.prog 153 = some [] := by kernel_rfl
theorem eln153 : elemT Tryd.prog 153 = none := by kernel_rfl
theorem arr153 : arrT Tryd.prog 153 = some (0, 1) := by kernel_rfl
theorem pla153 : placesT Tryd.prog 153 = some [] := by kernel_rfl
theorem con153 : concT Tryd.prog 153 = true := by kernel_rfl
-- 154: struct { _ [0]*runtime.PanicNilError }
theorem lay154 : layT Tryd.prog 154 = some (true, 0) := by kernel_rfl
theorem zer154 : zeroT Tryd.prog 154 = some [] := by kernel_rfl
theorem pla154 : placesT Tryd.prog 154 = some [(0, 0)] := by kernel_rfl
theorem con154 : concT Tryd.prog 154 = true := by kernel_rfl
-- 155: runtime.PanicNilError
theorem lay155 : layT Tryd.prog 155 = some (true, 0) := by kernel_rfl
theorem zer155 : zeroT Tryd.prog 155 = some [] := by kernel_rfl
theorem pla155 : placesT Tryd.prog 155 = some [(0, 0)] := by kernel_rfl
theorem con155 : concT Tryd.prog 155 = true := by kernel_rfl
-- 156: func() int
theorem lay156 : layT Tryd.prog 156 = some (false, 1) := by kernel_rfl
theorem zer156 : zeroT Tryd.prog 156 = some [.v (.prim .nilFunc)] := by kernel_rfl
theorem con156 : concT Tryd.prog 156 = true := by kernel_rfl
-- 157: uint32
theorem lay157 : layT Tryd.prog 157 = some (false, 1) := by kernel_rfl
theorem zer157 : zeroT Tryd.prog 157 = some [.v (.prim (.int .u32 (0)))] := by kernel_rfl
theorem con157 : concT Tryd.prog 157 = true := by kernel_rfl
theorem int157 : intT Tryd.prog 157 = some .u32 := by kernel_rfl
-- 158: abi.TFlag
theorem lay158 : layT Tryd.prog 158 = some (false, 1) := by kernel_rfl
theorem zer158 : zeroT Tryd.prog 158 = some [.v (.prim (.int .u8 (0)))] := by kernel_rfl
theorem con158 : concT Tryd.prog 158 = true := by kernel_rfl
theorem int158 : intT Tryd.prog 158 = some .u8 := by kernel_rfl
-- 159: abi.Kind
theorem lay159 : layT Tryd.prog 159 = some (false, 1) := by kernel_rfl
theorem zer159 : zeroT Tryd.prog 159 = some [.v (.prim (.int .u8 (0)))] := by kernel_rfl
theorem con159 : concT Tryd.prog 159 = true := by kernel_rfl
theorem int159 : intT Tryd.prog 159 = some .u8 := by kernel_rfl
-- 160: func(unsafe.Pointer, unsafe.Pointer) bool
theorem lay160 : layT Tryd.prog 160 = some (false, 1) := by kernel_rfl
theorem zer160 : zeroT Tryd.prog 160 = some [.v (.prim .nilFunc)] := by kernel_rfl
theorem con160 : concT Tryd.prog 160 = true := by kernel_rfl
-- 161: *uint8
theorem lay161 : layT Tryd.prog 161 = some (false, 1) := by kernel_rfl
theorem zer161 : zeroT Tryd.prog 161 = some [.v (.prim (.pointer none))] := by kernel_rfl
theorem con161 : concT Tryd.prog 161 = true := by kernel_rfl
-- 162: abi.NameOff
theorem lay162 : layT Tryd.prog 162 = some (false, 1) := by kernel_rfl
theorem zer162 : zeroT Tryd.prog 162 = some [.v (.prim (.int .i32 (0)))] := by kernel_rfl
theorem con162 : concT Tryd.prog 162 = true := by kernel_rfl
theorem int162 : intT Tryd.prog 162 = some .i32 := by kernel_rfl
-- 163: abi.TypeOff
theorem lay163 : layT Tryd.prog 163 = some (false, 1) := by kernel_rfl
theorem zer163 : zeroT Tryd.prog 163 = some [.v (.prim (.int .i32 (0)))] := by kernel_rfl
theorem con163 : concT Tryd.prog 163 = true := by kernel_rfl
theorem int163 : intT Tryd.prog 163 = some .i32 := by kernel_rfl
-- 164: struct { Size_ uintptr; PtrBytes uintptr; Hash uint32; TFlag abi.TFlag; Align_ uint8; FieldAlign_ uint8; Kind_ abi.Kind; Equal func(unsafe.Pointer, unsafe.Pointer) bool; GCData *uint8; Str abi.NameOff; PtrToThis abi.TypeOff }
theorem lay164 : layT Tryd.prog 164 = some (true, 11) := by kernel_rfl
theorem zer164 : zeroT Tryd.prog 164 = some [.v (.prim (.int .u64 (0))), .v (.prim (.int .u64 (0))), .v (.prim (.int .u32 (0))), .v (.prim (.int .u8 (0))), .v (.prim (.int .u8 (0))), .v (.prim (.int .u8 (0))), .v (.prim (.int .u8 (0))), .v (.prim .nilFunc), .v (.prim (.pointer none)), .v (.prim (.int .i32 (0))), .v (.prim (.int .i32 (0)))] := by kernel_rfl
theorem pla164 : placesT Tryd.prog 164 = some [(0, 1), (1, 1), (2, 1), (3, 1), (4, 1), (5, 1), (6, 1), (7, 1), (8, 1), (9, 1), (10, 1)] := by kernel_rfl
theorem con164 : concT Tryd.prog 164 = true := by kernel_rfl
theorem fld164_0 : fieldT Tryd.prog 164 0 = some (false, 0, 1) := by kernel_rfl
theorem fld164_1 : fieldT Tryd.prog 164 1 = some (false, 1, 1) := by kernel_rfl
theorem fld164_2 : fieldT Tryd.prog 164 2 = some (false, 2, 1) := by kernel_rfl
theorem fld164_3 : fieldT Tryd.prog 164 3 = some (false, 3, 1) := by kernel_rfl
theorem fld164_4 : fieldT Tryd.prog 164 4 = some (false, 4, 1) := by kernel_rfl
theorem fld164_5 : fieldT Tryd.prog 164 5 = some (false, 5, 1) := by kernel_rfl
theorem fld164_6 : fieldT Tryd.prog 164 6 = some (false, 6, 1) := by kernel_rfl
theorem fld164_7 : fieldT Tryd.prog 164 7 = some (false, 7, 1) := by kernel_rfl
theorem fld164_8 : fieldT Tryd.prog 164 8 = some (false, 8, 1) := by kernel_rfl
theorem fld164_9 : fieldT Tryd.prog 164 9 = some (false, 9, 1) := by kernel_rfl
theorem fld164_10 : fieldT Tryd.prog 164 10 = some (false, 10, 1) := by kernel_rfl
-- 165: abi.Type
theorem lay165 : layT Tryd.prog 165 = some (true, 11) := by kernel_rfl
theorem zer165 : zeroT Tryd.prog 165 = some [.v (.prim (.int .u64 (0))), .v (.prim (.int .u64 (0))), .v (.prim (.int .u32 (0))), .v (.prim (.int .u8 (0))), .v (.prim (.int .u8 (0))), .v (.prim (.int .u8 (0))), .v (.prim (.int .u8 (0))), .v (.prim .nilFunc), .v (.prim (.pointer none)), .v (.prim (.int .i32 (0))), .v (.prim (.int .i32 (0)))] := by kernel_rfl
theorem pla165 : placesT Tryd.prog 165 = some [(0, 1), (1, 1), (2, 1), (3, 1), (4, 1), (5, 1), (6, 1), (7, 1), (8, 1), (9, 1), (10, 1)] := by kernel_rfl
theorem con165 : concT Tryd.prog 165 = true := by kernel_rfl
theorem fld165_0 : fieldT Tryd.prog 165 0 = some (false, 0, 1) := by kernel_rfl
theorem fld165_1 : fieldT Tryd.prog 165 1 = some (false, 1, 1) := by kernel_rfl
theorem fld165_2 : fieldT Tryd.prog 165 2 = some (false, 2, 1) := by kernel_rfl
theorem fld165_3 : fieldT Tryd.prog 165 3 = some (false, 3, 1) := by kernel_rfl
theorem fld165_4 : fieldT Tryd.prog 165 4 = some (false, 4, 1) := by kernel_rfl
theorem fld165_5 : fieldT Tryd.prog 165 5 = some (false, 5, 1) := by kernel_rfl
theorem fld165_6 : fieldT Tryd.prog 165 6 = some (false, 6, 1) := by kernel_rfl
theorem fld165_7 : fieldT Tryd.prog 165 7 = some (false, 7, 1) := by kernel_rfl
theorem fld165_8 : fieldT Tryd.prog 165 8 = some (false, 8, 1) := by kernel_rfl
theorem fld165_9 : fieldT Tryd.prog 165 9 = some (false, 9, 1) := by kernel_rfl
theorem fld165_10 : fieldT Tryd.prog 165 10 = some (false, 10, 1) := by kernel_rfl
-- 166: unsafe.Pointer
theorem lay166 : layT Tryd.prog 166 = some (false, 1) := by kernel_rfl
theorem zer166 : zeroT Tryd.prog 166 = some [.v (.prim (.pointer none))] := by kernel_rfl
theorem con166 : concT Tryd.prog 166 = true := by kernel_rfl

attribute [go_sem] lay0 con0 lay1 zer1 con1 lay2 zer2 con2 int2 lay3 zer3 con3 int3 lay4 zer4 boo4 con4 lay5 zer5 con5 int5 lay6 zer6 con6 int6 lay7 zer7 pla7 con7 fld7_0 fld7_1 fld7_2 fld7_3 lay8 zer8 pla8 con8 fld8_0 fld8_1 fld8_2 fld8_3 lay9 zer9 con9 lay10 zer10 con10 lay11 zer11 con11 lay12 zer12 con12 int12 lay13 zer13 pla13 con13 fld13_0 fld13_1 lay14 zer14 pla14 con14 fld14_0 fld14_1 lay15 zer15 con15 lay16 zer16 con16 lay17 zer17 con17 lay18 zer18 pla18 con18 fld18_0 lay19 zer19 pla19 con19 fld19_0 lay20 zer20 lay21 zer21 con21 int21 lay22 zer22 ele22 elz22 con22 lay23 zer23 ele23 elz23 con23 lay24 zer24 pla24 con24 fld24_0 fld24_1 lay25 zer25 pla25 con25 fld25_0 fld25_1 lay26 zer26 ele26 elz26 con26 lay27 zer27 pla27 con27 fld27_0 fld27_1 fld27_2 fld27_3 lay28 zer28 pla28 con28 fld28_0 fld28_1 fld28_2 fld28_3 lay29 zer29 ele29 elz29 con29 lay30 zer30 con30 lay31 zer31 con31 lay32 zer32 pla32 con32 fld32_0 lay33 zer33 pla33 con33 fld33_0 lay34 zer34 con34 lay35 zer35 con35 lay36 zer36 con36 lay37 zer37 con37 lay38 zer38 con38 lay39 zer39 con39 lay40 zer40 con40 lay41 zer41 con41 int41 lay42 con42 lay43 zer43 con43 lay44 zer44 con44 lay45 zer45 pla45 con45 fld45_0 fld45_1 lay46 zer46 pla46 con46 fld46_0 fld46_1 lay47 zer47 con47 lay48 zer48 ele48 elz48 con48 lay49 con49 lay50 zer50 con50 lay51 zer51 con51 lay52 zer52 con52 lay53 zer53 con53 lay54 con54 lay55 zer55 con55 lay56 zer56 con56 lay57 zer57 con57 lay58 zer58 con58 lay59 zer59 con59 lay60 zer60 con60 lay61 zer61 ele61 elz61 con61 lay62 zer62 pla62 con62 fld62_0 fld62_1 fld62_2 fld62_3 lay63 zer63 pla63 con63 fld63_0 fld63_1 fld63_2 fld63_3 lay64 zer64 con64 lay65 zer65 con65 lay66 con66 lay67 zer67 con67 lay68 con68 lay69 zer69 con69 lay70 zer70 con70 lay71 con71 lay72 zer72 con72 lay73 zer73 con73 lay74 zer74 con74 lay75 zer75 con75 lay76 zer76 con76 lay77 zer77 con77 lay78 zer78 pla78 con78 fld78_0 fld78_1 lay79 zer79 ele79 elz79 con79 lay80 zer80 con80 lay81 zer81 con81 lay82 zer82 pla82 con82 fld82_0 fld82_1 lay83 zer83 pla83 con83 fld83_0 fld83_1 lay84 zer84 con84 lay85 zer85 con85 lay86 zer86 con86 lay87 zer87 con87 lay88 zer88 con88 lay89 zer89 con89 lay90 zer90 con90 lay91 zer91 con91 lay92 zer92 con92 lay93 zer93 pla93 con93 fld93_0 fld93_1 fld93_2 lay94 zer94 pla94 con94 fld94_0 fld94_1 fld94_2 lay95 zer95 con95 lay96 con96 lay97 zer97 con97 lay98 con98 lay99 zer99 con99 lay100 zer100 con100 lay101 zer101 pla101 con101 fld101_0 fld101_1 lay102 zer102 pla102 con102 fld102_0 fld102_1 lay103 zer103 eln103 arr103 pla103 con103 lay104 con104 lay105 zer105 con105 lay106 zer106 con106 lay107 zer107 con107 lay108 zer108 con108 lay109 zer109 con109 lay110 zer110 con110 lay111 zer111 con111 lay112 con112 lay113 zer113 con113 lay114 con114 lay115 zer115 con115 lay116 zer116 con116 lay117 zer117 con117 lay118 zer118 con118 lay119 con119 lay120 zer120 con120 lay121 zer121 con121 lay122 zer122 con122 lay123 zer123 con123 lay124 zer124 con124 lay125 zer125 con125 lay126 zer126 con126 lay127 zer127 con127 lay128 con128 lay129 zer129 con129 lay130 zer130 con130 lay131 zer131 con131 lay132 zer132 con132 lay133 zer133 con133 lay134 zer134 con134 lay135 zer135 con135 lay136 zer136 con136 lay137 zer137 con137 lay138 zer138 con138 lay139 zer139 con139 lay140 zer140 con140 lay141 zer141 con141 lay142 zer142 con142 lay143 zer143 con143 lay144 zer144 con144 lay145 zer145 con145 lay146 zer146 con146 lay147 zer147 con147 lay148 zer148 eln148 arr148 pla148 con148 lay149 zer149 con149 lay150 zer150 con150 lay151 zer151 pla151 con151 fld151_0 fld151_1 fld151_2 fld151_3 lay152 zer152 pla152 con152 fld152_0 fld152_1 fld152_2 fld152_3 lay153 zer153 eln153 arr153 pla153 con153 lay154 zer154 pla154 con154 lay155 zer155 pla155 con155 lay156 zer156 con156 lay157 zer157 con157 int157 lay158 zer158 con158 int158 lay159 zer159 con159 int159 lay160 zer160 con160 lay161 zer161 con161 lay162 zer162 con162 int162 lay163 zer163 con163 int163 lay164 zer164 pla164 con164 fld164_0 fld164_1 fld164_2 fld164_3 fld164_4 fld164_5 fld164_6 fld164_7 fld164_8 fld164_9 fld164_10 lay165 zer165 pla165 con165 fld165_0 fld165_1 fld165_2 fld165_3 fld165_4 fld165_5 fld165_6 fld165_7 fld165_8 fld165_9 fld165_10 lay166 zer166 con166
end Go.Proofs.YtbmnlkfgkdallaaDoor.Lift
