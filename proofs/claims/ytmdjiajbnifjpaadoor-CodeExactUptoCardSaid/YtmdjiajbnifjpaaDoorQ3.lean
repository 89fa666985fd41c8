import Derived.Test.YtmdjiajbnifjpaaDoorQ2
import Derived.Test.YtmdjiajbnifjpaaDoorProg
/-
  Facts of the seat's types, printed by a program: each is proved by reckoning.
-/
namespace Go.Proofs.YtmdjiajbnifjpaaDoor.Lift
set_option linter.unusedVariables false
open Go

theorem mixed : Tryd.prog.follows .mixedOrders = true := by kernel_rfl
-- 0: ()
theorem lay0 : layT Tryd.prog 0 = some (false, 1) := by kernel_rfl
theorem con0 : concT Tryd.prog 0 = true := by kernel_rfl
-- 1: func()
theorem lay1 : layT Tryd.prog 1 = some (false, 1) := by kernel_rfl
theorem zer1 : zeroT Tryd.prog 1 = some [.v (.prim .nilFunc)] := by kernel_rfl
theorem con1 : concT Tryd.prog 1 = true := by kernel_rfl
-- 2: int64
theorem lay2 : layT Tryd.prog 2 = some (false, 1) := by kernel_rfl
theorem zer2 : zeroT Tryd.prog 2 = some [.v (.prim (.int .i64 (0)))] := by kernel_rfl
theorem zrp2 : zeroP Tryd.prog 2 = some (.int .i64 (0)) := by kernel_rfl
theorem con2 : concT Tryd.prog 2 = true := by kernel_rfl
theorem int2 : intT Tryd.prog 2 = some .i64 := by kernel_rfl
-- 3: int
theorem lay3 : layT Tryd.prog 3 = some (false, 1) := by kernel_rfl
theorem zer3 : zeroT Tryd.prog 3 = some [.v (.prim (.int .i64 (0)))] := by kernel_rfl
theorem zrp3 : zeroP Tryd.prog 3 = some (.int .i64 (0)) := by kernel_rfl
theorem con3 : concT Tryd.prog 3 = true := by kernel_rfl
theorem int3 : intT Tryd.prog 3 = some .i64 := by kernel_rfl
-- 4: bool
theorem lay4 : layT Tryd.prog 4 = some (false, 1) := by kernel_rfl
theorem zer4 : zeroT Tryd.prog 4 = some [.v (.prim (.bool false))] := by kernel_rfl
theorem boo4 : boolT Tryd.prog 4 = true := by kernel_rfl
theorem con4 : concT Tryd.prog 4 = true := by kernel_rfl
-- 5: uint8
theorem lay5 : layT Tryd.prog 5 = some (false, 1) := by kernel_rfl
theorem zer5 : zeroT Tryd.prog 5 = some [.v (.prim (.int .u8 (0)))] := by kernel_rfl
theorem zrp5 : zeroP Tryd.prog 5 = some (.int .u8 (0)) := by kernel_rfl
theorem con5 : concT Tryd.prog 5 = true := by kernel_rfl
theorem int5 : intT Tryd.prog 5 = some .u8 := by kernel_rfl
-- 6: abi.BoundsErrorCode
theorem lay6 : layT Tryd.prog 6 = some (false, 1) := by kernel_rfl
theorem zer6 : zeroT Tryd.prog 6 = some [.v (.prim (.int .u8 (0)))] := by kernel_rfl
theorem zrp6 : zeroP Tryd.prog 6 = some (.int .u8 (0)) := by kernel_rfl
theorem con6 : concT Tryd.prog 6 = true := by kernel_rfl
theorem int6 : intT Tryd.prog 6 = some .u8 := by kernel_rfl
-- 7: struct { x int64; y int; signed bool; code abi.BoundsErrorCode }
theorem lay7 : layT Tryd.prog 7 = some (true, 4) := by kernel_rfl
theorem zer7 : zeroT Tryd.prog 7 = some [.v (.prim (.int .i64 (0))), .v (.prim (.int .i64 (0))), .v (.prim (.bool false)), .v (.prim (.int .u8 (0)))] := by kernel_rfl
theorem pla7 : placesT Tryd.prog 7 = some [(0, 1), (1, 1), (2, 1), (3, 1)] := by kernel_rfl
theorem con7 : concT Tryd.prog 7 = true := by kernel_rfl
theorem fld7_0 : fieldT Tryd.prog 7 0 = some (false, 0, 1) := by kernel_rfl
theorem fld7_1 : fieldT Tryd.prog 7 1 = some (false, 1, 1) := by kernel_rfl
theorem fld7_2 : fieldT Tryd.prog 7 2 = some (false, 2, 1) := by kernel_rfl
theorem fld7_3 : fieldT Tryd.prog 7 3 = some (false, 3, 1) := by kernel_rfl
-- 8: runtime.boundsError
theorem lay8 : layT Tryd.prog 8 = some (true, 4) := by kernel_rfl
theorem zer8 : zeroT Tryd.prog 8 = some [.v (.prim (.int .i64 (0))), .v (.prim (.int .i64 (0))), .v (.prim (.bool false)), .v (.prim (.int .u8 (0)))] := by kernel_rfl
theorem pla8 : placesT Tryd.prog 8 = some [(0, 1), (1, 1), (2, 1), (3, 1)] := by kernel_rfl
theorem con8 : concT Tryd.prog 8 = true := by kernel_rfl
theorem fld8_0 : fieldT Tryd.prog 8 0 = some (false, 0, 1) := by kernel_rfl
theorem fld8_1 : fieldT Tryd.prog 8 1 = some (false, 1, 1) := by kernel_rfl
theorem fld8_2 : fieldT Tryd.prog 8 2 = some (false, 2, 1) := by kernel_rfl
theorem fld8_3 : fieldT Tryd.prog 8 3 = some (false, 3, 1) := by kernel_rfl
-- 9: string
theorem lay9 : layT Tryd.prog 9 = some (false, 1) := by kernel_rfl
theorem zer9 : zeroT Tryd.prog 9 = some [.v (.prim (.string ByteArray.empty))] := by kernel_rfl
theorem con9 : concT Tryd.prog 9 = true := by kernel_rfl
-- 10: runtime.errorString
theorem lay10 : layT Tryd.prog 10 = some (false, 1) := by kernel_rfl
theorem zer10 : zeroT Tryd.prog 10 = some [.v (.prim (.string ByteArray.empty))] := by kernel_rfl
theorem con10 : concT Tryd.prog 10 = true := by kernel_rfl
-- 11: runtime.plainError
theorem lay11 : layT Tryd.prog 11 = some (false, 1) := by kernel_rfl
theorem zer11 : zeroT Tryd.prog 11 = some [.v (.prim (.string ByteArray.empty))] := by kernel_rfl
theorem con11 : concT Tryd.prog 11 = true := by kernel_rfl
-- 12: uintptr
theorem lay12 : layT Tryd.prog 12 = some (false, 1) := by kernel_rfl
theorem zer12 : zeroT Tryd.prog 12 = some [.v (.prim (.int .u64 (0)))] := by kernel_rfl
theorem zrp12 : zeroP Tryd.prog 12 = some (.int .u64 (0)) := by kernel_rfl
theorem con12 : concT Tryd.prog 12 = true := by kernel_rfl
theorem int12 : intT Tryd.prog 12 = some .u64 := by kernel_rfl
-- 13: struct { msg string; addr uintptr }
theorem lay13 : layT Tryd.prog 13 = some (true, 2) := by kernel_rfl
theorem zer13 : zeroT Tryd.prog 13 = some [.v (.prim (.string ByteArray.empty)), .v (.prim (.int .u64 (0)))] := by kernel_rfl
theorem pla13 : placesT Tryd.prog 13 = some [(0, 1), (1, 1)] := by kernel_rfl
theorem con13 : concT Tryd.prog 13 = true := by kernel_rfl
theorem fld13_0 : fieldT Tryd.prog 13 0 = some (false, 0, 1) := by kernel_rfl
theorem fld13_1 : fieldT Tryd.prog 13 1 = some (false, 1, 1) := by kernel_rfl
-- 14: runtime.errorAddressString
theorem lay14 : layT Tryd.prog 14 = some (true, 2) := by kernel_rfl
theorem zer14 : zeroT Tryd.prog 14 = some [.v (.prim (.string ByteArray.empty)), .v (.prim (.int .u64 (0)))] := by kernel_rfl
theorem pla14 : placesT Tryd.prog 14 = some [(0, 1), (1, 1)] := by kernel_rfl
theorem con14 : concT Tryd.prog 14 = true := by kernel_rfl
theorem fld14_0 : fieldT Tryd.prog 14 0 = some (false, 0, 1) := by kernel_rfl
theorem fld14_1 : fieldT Tryd.prog 14 1 = some (false, 1, 1) := by kernel_rfl
-- 15: *runtime.TypeAssertionError
theorem lay15 : layT Tryd.prog 15 = some (false, 1) := by kernel_rfl
theorem zer15 : zeroT Tryd.prog 15 = some [.v (.prim (.pointer none))] := by kernel_rfl
theorem ptr15 : ptrT Tryd.prog 15 = true := by kernel_rfl
theorem zrp15 : zeroP Tryd.prog 15 = some (.pointer none) := by kernel_rfl
theorem con15 : concT Tryd.prog 15 = true := by kernel_rfl
-- 16: *runtime.PanicNilError
theorem lay16 : layT Tryd.prog 16 = some (false, 1) := by kernel_rfl
theorem zer16 : zeroT Tryd.prog 16 = some [.v (.prim (.pointer none))] := by kernel_rfl
theorem ptr16 : ptrT Tryd.prog 16 = true := by kernel_rfl
theorem zrp16 : zeroP Tryd.prog 16 = some (.pointer none) := by kernel_rfl
theorem con16 : concT Tryd.prog 16 = true := by kernel_rfl
-- 17: *abi.Type
theorem lay17 : layT Tryd.prog 17 = some (false, 1) := by kernel_rfl
theorem zer17 : zeroT Tryd.prog 17 = some [.v (.prim (.pointer none))] := by kernel_rfl
theorem ptr17 : ptrT Tryd.prog 17 = true := by kernel_rfl
theorem zrp17 : zeroP Tryd.prog 17 = some (.pointer none) := by kernel_rfl
theorem con17 : concT Tryd.prog 17 = true := by kernel_rfl
-- 18: struct { typ *abi.Type }
theorem lay18 : layT Tryd.prog 18 = some (true, 1) := by kernel_rfl
theorem zer18 : zeroT Tryd.prog 18 = some [.v (.prim (.pointer none))] := by kernel_rfl
theorem pla18 : placesT Tryd.prog 18 = some [(0, 1)] := by kernel_rfl
theorem con18 : concT Tryd.prog 18 = true := by kernel_rfl
theorem fld18_0 : fieldT Tryd.prog 18 0 = some (false, 0, 1) := by kernel_rfl
-- 19: maps.unhashableTypeError
theorem lay19 : layT Tryd.prog 19 = some (true, 1) := by kernel_rfl
theorem zer19 : zeroT Tryd.prog 19 = some [.v (.prim (.pointer none))] := by kernel_rfl
theorem pla19 : placesT Tryd.prog 19 = some [(0, 1)] := by kernel_rfl
theorem con19 : concT Tryd.prog 19 = true := by kernel_rfl
theorem fld19_0 : fieldT Tryd.prog 19 0 = some (false, 0, 1) := by kernel_rfl
-- 20: interface {}
theorem lay20 : layT Tryd.prog 20 = some (false, 1) := by kernel_rfl
theorem zer20 : zeroT Tryd.prog 20 = some [.v (.prim .nilIface)] := by kernel_rfl
-- 21: int32
theorem lay21 : layT Tryd.prog 21 = some (false, 1) := by kernel_rfl
theorem zer21 : zeroT Tryd.prog 21 = some [.v (.prim (.int .i32 (0)))] := by kernel_rfl
theorem zrp21 : zeroP Tryd.prog 21 = some (.int .i32 (0)) := by kernel_rfl
theorem con21 : concT Tryd.prog 21 = true := by kernel_rfl
theorem int21 : intT Tryd.prog 21 = some .i32 := by kernel_rfl
-- 22: []int
theorem lay22 : layT Tryd.prog 22 = some (false, 1) := by kernel_rfl
theorem zer22 : zeroT Tryd.prog 22 = some [.own 0 []] := by kernel_rfl
theorem ele22 : elemT Tryd.prog 22 = some 1 := by kernel_rfl
theorem elz22 : elemZ Tryd.prog 22 = some (1, 8) := by kernel_rfl
theorem con22 : concT Tryd.prog 22 = true := by kernel_rfl
-- 23: []api.Type
theorem lay23 : layT Tryd.prog 23 = some (false, 1) := by kernel_rfl
theorem zer23 : zeroT Tryd.prog 23 = some [.own 0 []] := by kernel_rfl
theorem ele23 : elemT Tryd.prog 23 = some 2 := by kernel_rfl
theorem elz23 : elemZ Tryd.prog 23 = some (2, 32) := by kernel_rfl
theorem con23 : concT Tryd.prog 23 = true := by kernel_rfl
-- 24: struct { Kind int; Args []api.Type }
theorem lay24 : layT Tryd.prog 24 = some (true, 2) := by kernel_rfl
theorem zer24 : zeroT Tryd.prog 24 = some [.v (.prim (.int .i64 (0))), .own 0 []] := by kernel_rfl
theorem pla24 : placesT Tryd.prog 24 = some [(0, 1), (1, 1)] := by kernel_rfl
theorem con24 : concT Tryd.prog 24 = true := by kernel_rfl
theorem fld24_0 : fieldT Tryd.prog 24 0 = some (false, 0, 1) := by kernel_rfl
theorem fld24_1 : fieldT Tryd.prog 24 1 = some (false, 1, 1) := by kernel_rfl
-- 25: api.Type
theorem lay25 : layT Tryd.prog 25 = some (true, 2) := by kernel_rfl
theorem zer25 : zeroT Tryd.prog 25 = some [.v (.prim (.int .i64 (0))), .own 0 []] := by kernel_rfl
theorem pla25 : placesT Tryd.prog 25 = some [(0, 1), (1, 1)] := by kernel_rfl
theorem con25 : concT Tryd.prog 25 = true := by kernel_rfl
theorem fld25_0 : fieldT Tryd.prog 25 0 = some (false, 0, 1) := by kernel_rfl
theorem fld25_1 : fieldT Tryd.prog 25 1 = some (false, 1, 1) := by kernel_rfl
-- 26: []api.Term
theorem lay26 : layT Tryd.prog 26 = some (false, 1) := by kernel_rfl
theorem zer26 : zeroT Tryd.prog 26 = some [.own 0 []] := by kernel_rfl
theorem ele26 : elemT Tryd.prog 26 = some 5 := by kernel_rfl
theorem elz26 : elemZ Tryd.prog 26 = some (5, 72) := by kernel_rfl
theorem con26 : concT Tryd.prog 26 = true := by kernel_rfl
-- 27: struct { Kind int; Index int; Type api.Type; Args []api.Term }
theorem lay27 : layT Tryd.prog 27 = some (true, 5) := by kernel_rfl
theorem zer27 : zeroT Tryd.prog 27 = some [.v (.prim (.int .i64 (0))), .v (.prim (.int .i64 (0))), .v (.prim (.int .i64 (0))), .own 0 [], .own 0 []] := by kernel_rfl
theorem pla27 : placesT Tryd.prog 27 = some [(0, 1), (1, 1), (2, 2), (4, 1)] := by kernel_rfl
theorem con27 : concT Tryd.prog 27 = true := by kernel_rfl
theorem fld27_0 : fieldT Tryd.prog 27 0 = some (false, 0, 1) := by kernel_rfl
theorem fld27_1 : fieldT Tryd.prog 27 1 = some (false, 1, 1) := by kernel_rfl
theorem fld27_2 : fieldT Tryd.prog 27 2 = some (true, 2, 2) := by kernel_rfl
theorem fld27_3 : fieldT Tryd.prog 27 3 = some (false, 4, 1) := by kernel_rfl
-- 28: api.Term
theorem lay28 : layT Tryd.prog 28 = some (true, 5) := by kernel_rfl
theorem zer28 : zeroT Tryd.prog 28 = some [.v (.prim (.int .i64 (0))), .v (.prim (.int .i64 (0))), .v (.prim (.int .i64 (0))), .own 0 [], .own 0 []] := by kernel_rfl
theorem pla28 : placesT Tryd.prog 28 = some [(0, 1), (1, 1), (2, 2), (4, 1)] := by kernel_rfl
theorem con28 : concT Tryd.prog 28 = true := by kernel_rfl
theorem fld28_0 : fieldT Tryd.prog 28 0 = some (false, 0, 1) := by kernel_rfl
theorem fld28_1 : fieldT Tryd.prog 28 1 = some (false, 1, 1) := by kernel_rfl
theorem fld28_2 : fieldT Tryd.prog 28 2 = some (true, 2, 2) := by kernel_rfl
theorem fld28_3 : fieldT Tryd.prog 28 3 = some (false, 4, 1) := by kernel_rfl
-- 29: []api.Instr
theorem lay29 : layT Tryd.prog 29 = some (false, 1) := by kernel_rfl
theorem zer29 : zeroT Tryd.prog 29 = some [.own 0 []] := by kernel_rfl
theorem ele29 : elemT Tryd.prog 29 = some 2 := by kernel_rfl
theorem elz29 : elemZ Tryd.prog 29 = some (2, 16) := by kernel_rfl
theorem con29 : concT Tryd.prog 29 = true := by kernel_rfl
-- 30: func() bool
theorem lay30 : layT Tryd.prog 30 = some (false, 1) := by kernel_rfl
theorem zer30 : zeroT Tryd.prog 30 = some [.v (.prim .nilFunc)] := by kernel_rfl
theorem con30 : concT Tryd.prog 30 = true := by kernel_rfl
-- 31: func([]int) bool
theorem lay31 : layT Tryd.prog 31 = some (false, 1) := by kernel_rfl
theorem zer31 : zeroT Tryd.prog 31 = some [.v (.prim .nilFunc)] := by kernel_rfl
theorem con31 : concT Tryd.prog 31 = true := by kernel_rfl
-- 32: struct { N int }
theorem lay32 : layT Tryd.prog 32 = some (true, 1) := by kernel_rfl
theorem zer32 : zeroT Tryd.prog 32 = some [.v (.prim (.int .i64 (0)))] := by kernel_rfl
theorem pla32 : placesT Tryd.prog 32 = some [(0, 1)] := by kernel_rfl
theorem con32 : concT Tryd.prog 32 = true := by kernel_rfl
theorem fld32_0 : fieldT Tryd.prog 32 0 = some (false, 0, 1) := by kernel_rfl
-- 33: proofprogramsplay.Sum
theorem lay33 : layT Tryd.prog 33 = some (true, 1) := by kernel_rfl
theorem zer33 : zeroT Tryd.prog 33 = some [.v (.prim (.int .i64 (0)))] := by kernel_rfl
theorem pla33 : placesT Tryd.prog 33 = some [(0, 1)] := by kernel_rfl
theorem con33 : concT Tryd.prog 33 = true := by kernel_rfl
theorem fld33_0 : fieldT Tryd.prog 33 0 = some (false, 0, 1) := by kernel_rfl
-- 34: func() proofprogramsplay.Sum
theorem lay34 : layT Tryd.prog 34 = some (false, 1) := by kernel_rfl
theorem zer34 : zeroT Tryd.prog 34 = some [.v (.prim .nilFunc)] := by kernel_rfl
theorem con34 : concT Tryd.prog 34 = true := by kernel_rfl
-- 35: func(...api.Term) proofprogramsplay.Sum
theorem lay35 : layT Tryd.prog 35 = some (false, 1) := by kernel_rfl
theorem zer35 : zeroT Tryd.prog 35 = some [.v (.prim .nilFunc)] := by kernel_rfl
theorem con35 : concT Tryd.prog 35 = true := by kernel_rfl
-- 36: *proofprogramsmake.Deck
theorem lay36 : layT Tryd.prog 36 = some (false, 1) := by kernel_rfl
theorem zer36 : zeroT Tryd.prog 36 = some [.v (.prim (.pointer none))] := by kernel_rfl
theorem ptr36 : ptrT Tryd.prog 36 = true := by kernel_rfl
theorem zrp36 : zeroP Tryd.prog 36 = some (.pointer none) := by kernel_rfl
theorem con36 : concT Tryd.prog 36 = true := by kernel_rfl
-- 37: func([]int) *proofprogramsmake.Deck
theorem lay37 : layT Tryd.prog 37 = some (false, 1) := by kernel_rfl
theorem zer37 : zeroT Tryd.prog 37 = some [.v (.prim .nilFunc)] := by kernel_rfl
theorem con37 : concT Tryd.prog 37 = true := by kernel_rfl
-- 38: func(*proofprogramsmake.Deck, []api.Type, api.Type, int) api.Term
theorem lay38 : layT Tryd.prog 38 = some (false, 1) := by kernel_rfl
theorem zer38 : zeroT Tryd.prog 38 = some [.v (.prim .nilFunc)] := by kernel_rfl
theorem con38 : concT Tryd.prog 38 = true := by kernel_rfl
-- 39: func(*proofprogramsmake.Deck) []api.Type
theorem lay39 : layT Tryd.prog 39 = some (false, 1) := by kernel_rfl
theorem zer39 : zeroT Tryd.prog 39 = some [.v (.prim .nilFunc)] := by kernel_rfl
theorem con39 : concT Tryd.prog 39 = true := by kernel_rfl
-- 40: func(*proofprogramsmake.Deck, int) api.Type
theorem lay40 : layT Tryd.prog 40 = some (false, 1) := by kernel_rfl
theorem zer40 : zeroT Tryd.prog 40 = some [.v (.prim .nilFunc)] := by kernel_rfl
theorem con40 : concT Tryd.prog 40 = true := by kernel_rfl
-- 41: api.Errno
theorem lay41 : layT Tryd.prog 41 = some (false, 1) := by kernel_rfl
theorem zer41 : zeroT Tryd.prog 41 = some [.v (.prim (.int .i64 (0)))] := by kernel_rfl
theorem zrp41 : zeroP Tryd.prog 41 = some (.int .i64 (0)) := by kernel_rfl
theorem con41 : concT Tryd.prog 41 = true := by kernel_rfl
theorem int41 : intT Tryd.prog 41 = some .i64 := by kernel_rfl
-- 42: ([]api.Instr, api.Errno)
theorem lay42 : layT Tryd.prog 42 = some (false, 1) := by kernel_rfl
theorem con42 : concT Tryd.prog 42 = true := by kernel_rfl
-- 43: func(api.Term) ([]api.Instr, api.Errno)
theorem lay43 : layT Tryd.prog 43 = some (false, 1) := by kernel_rfl
theorem zer43 : zeroT Tryd.prog 43 = some [.v (.prim .nilFunc)] := by kernel_rfl
theorem con43 : concT Tryd.prog 43 = true := by kernel_rfl
-- 44: func([]api.Instr, []api.Instr) bool
theorem lay44 : layT Tryd.prog 44 = some (false, 1) := by kernel_rfl
theorem zer44 : zeroT Tryd.prog 44 = some [.v (.prim .nilFunc)] := by kernel_rfl
theorem con44 : concT Tryd.prog 44 = true := by kernel_rfl
-- 45: struct { Op int; A int }
theorem lay45 : layT Tryd.prog 45 = some (true, 2) := by kernel_rfl
theorem zer45 : zeroT Tryd.prog 45 = some [.v (.prim (.int .i64 (0))), .v (.prim (.int .i64 (0)))] := by kernel_rfl
theorem pla45 : placesT Tryd.prog 45 = some [(0, 1), (1, 1)] := by kernel_rfl
theorem con45 : concT Tryd.prog 45 = true := by kernel_rfl
theorem fld45_0 : fieldT Tryd.prog 45 0 = some (false, 0, 1) := by kernel_rfl
theorem fld45_1 : fieldT Tryd.prog 45 1 = some (false, 1, 1) := by kernel_rfl
-- 46: api.Instr
theorem lay46 : layT Tryd.prog 46 = some (true, 2) := by kernel_rfl
theorem zer46 : zeroT Tryd.prog 46 = some [.v (.prim (.int .i64 (0))), .v (.prim (.int .i64 (0)))] := by kernel_rfl
theorem pla46 : placesT Tryd.prog 46 = some [(0, 1), (1, 1)] := by kernel_rfl
theorem con46 : concT Tryd.prog 46 = true := by kernel_rfl
theorem fld46_0 : fieldT Tryd.prog 46 0 = some (false, 0, 1) := by kernel_rfl
theorem fld46_1 : fieldT Tryd.prog 46 1 = some (false, 1, 1) := by kernel_rfl
-- 47: func(*proofprogramsmake.Deck) []api.Instr
theorem lay47 : layT Tryd.prog 47 = some (false, 1) := by kernel_rfl
theorem zer47 : zeroT Tryd.prog 47 = some [.v (.prim .nilFunc)] := by kernel_rfl
theorem con47 : concT Tryd.prog 47 = true := by kernel_rfl
-- 48: [][]api.Instr
theorem lay48 : layT Tryd.prog 48 = some (false, 1) := by kernel_rfl
theorem zer48 : zeroT Tryd.prog 48 = some [.own 0 []] := by kernel_rfl
theorem ele48 : elemT Tryd.prog 48 = some 1 := by kernel_rfl
theorem elz48 : elemZ Tryd.prog 48 = some (1, 24) := by kernel_rfl
theorem con48 : concT Tryd.prog 48 = true := by kernel_rfl
-- 49: (api.Term, api.Errno)
theorem lay49 : layT Tryd.prog 49 = some (false, 1) := by kernel_rfl
theorem con49 : concT Tryd.prog 49 = true := by kernel_rfl
-- 50: func([]api.Instr) (api.Term, api.Errno)
theorem lay50 : layT Tryd.prog 50 = some (false, 1) := by kernel_rfl
theorem zer50 : zeroT Tryd.prog 50 = some [.v (.prim .nilFunc)] := by kernel_rfl
theorem con50 : concT Tryd.prog 50 = true := by kernel_rfl
-- 51: func([]api.Instr) api.Errno
theorem lay51 : layT Tryd.prog 51 = some (false, 1) := by kernel_rfl
theorem zer51 : zeroT Tryd.prog 51 = some [.v (.prim .nilFunc)] := by kernel_rfl
theorem con51 : concT Tryd.prog 51 = true := by kernel_rfl
-- 52: func(api.Term, api.Term) bool
theorem lay52 : layT Tryd.prog 52 = some (false, 1) := by kernel_rfl
theorem zer52 : zeroT Tryd.prog 52 = some [.v (.prim .nilFunc)] := by kernel_rfl
theorem con52 : concT Tryd.prog 52 = true := by kernel_rfl
-- 53: func([]int, api.Term, []api.Instr) bool
theorem lay53 : layT Tryd.prog 53 = some (false, 1) := by kernel_rfl
theorem zer53 : zeroT Tryd.prog 53 = some [.v (.prim .nilFunc)] := by kernel_rfl
theorem con53 : concT Tryd.prog 53 = true := by kernel_rfl
-- 54: (int, api.Errno)
theorem lay54 : layT Tryd.prog 54 = some (false, 1) := by kernel_rfl
theorem con54 : concT Tryd.prog 54 = true := by kernel_rfl
-- 55: func(api.Term) (int, api.Errno)
theorem lay55 : layT Tryd.prog 55 = some (false, 1) := by kernel_rfl
theorem zer55 : zeroT Tryd.prog 55 = some [.v (.prim .nilFunc)] := by kernel_rfl
theorem con55 : concT Tryd.prog 55 = true := by kernel_rfl
-- 56: func(api.Term) api.Term
theorem lay56 : layT Tryd.prog 56 = some (false, 1) := by kernel_rfl
theorem zer56 : zeroT Tryd.prog 56 = some [.v (.prim .nilFunc)] := by kernel_rfl
theorem con56 : concT Tryd.prog 56 = true := by kernel_rfl
-- 57: func(int) int
theorem lay57 : layT Tryd.prog 57 = some (false, 1) := by kernel_rfl
theorem zer57 : zeroT Tryd.prog 57 = some [.v (.prim .nilFunc)] := by kernel_rfl
theorem con57 : concT Tryd.prog 57 = true := by kernel_rfl
-- 58: func(api.Errno) bool
theorem lay58 : layT Tryd.prog 58 = some (false, 1) := by kernel_rfl
theorem zer58 : zeroT Tryd.prog 58 = some [.v (.prim .nilFunc)] := by kernel_rfl
theorem con58 : concT Tryd.prog 58 = true := by kernel_rfl
-- 59: func(int, ...api.Term) api.Term
theorem lay59 : layT Tryd.prog 59 = some (false, 1) := by kernel_rfl
theorem zer59 : zeroT Tryd.prog 59 = some [.v (.prim .nilFunc)] := by kernel_rfl
theorem con59 : concT Tryd.prog 59 = true := by kernel_rfl
-- 60: func(api.Term, int) int
theorem lay60 : layT Tryd.prog 60 = some (false, 1) := by kernel_rfl
theorem zer60 : zeroT Tryd.prog 60 = some [.v (.prim .nilFunc)] := by kernel_rfl
theorem con60 : concT Tryd.prog 60 = true := by kernel_rfl
-- 61: struct { L []int; At int }
theorem lay61 : layT Tryd.prog 61 = some (true, 2) := by kernel_rfl
theorem zer61 : zeroT Tryd.prog 61 = some [.own 0 [], .v (.prim (.int .i64 (0)))] := by kernel_rfl
theorem pla61 : placesT Tryd.prog 61 = some [(0, 1), (1, 1)] := by kernel_rfl
theorem con61 : concT Tryd.prog 61 = true := by kernel_rfl
theorem fld61_0 : fieldT Tryd.prog 61 0 = some (false, 0, 1) := by kernel_rfl
theorem fld61_1 : fieldT Tryd.prog 61 1 = some (false, 1, 1) := by kernel_rfl
-- 62: proofprogramsmake.Deck
theorem lay62 : layT Tryd.prog 62 = some (true, 2) := by kernel_rfl
theorem zer62 : zeroT Tryd.prog 62 = some [.own 0 [], .v (.prim (.int .i64 (0)))] := by kernel_rfl
theorem pla62 : placesT Tryd.prog 62 = some [(0, 1), (1, 1)] := by kernel_rfl
theorem con62 : concT Tryd.prog 62 = true := by kernel_rfl
theorem fld62_0 : fieldT Tryd.prog 62 0 = some (false, 0, 1) := by kernel_rfl
theorem fld62_1 : fieldT Tryd.prog 62 1 = some (false, 1, 1) := by kernel_rfl
-- 63: func([]api.Type, api.Type) []int
theorem lay63 : layT Tryd.prog 63 = some (false, 1) := by kernel_rfl
theorem zer63 : zeroT Tryd.prog 63 = some [.v (.prim .nilFunc)] := by kernel_rfl
theorem con63 : concT Tryd.prog 63 = true := by kernel_rfl
-- 64: func(int) api.Term
theorem lay64 : layT Tryd.prog 64 = some (false, 1) := by kernel_rfl
theorem zer64 : zeroT Tryd.prog 64 = some [.v (.prim .nilFunc)] := by kernel_rfl
theorem con64 : concT Tryd.prog 64 = true := by kernel_rfl
-- 65: func(int, api.Type, ...api.Term) api.Term
theorem lay65 : layT Tryd.prog 65 = some (false, 1) := by kernel_rfl
theorem zer65 : zeroT Tryd.prog 65 = some [.v (.prim .nilFunc)] := by kernel_rfl
theorem con65 : concT Tryd.prog 65 = true := by kernel_rfl
-- 66: func([]api.Type, ...api.Type) []api.Type
theorem lay66 : layT Tryd.prog 66 = some (false, 1) := by kernel_rfl
theorem zer66 : zeroT Tryd.prog 66 = some [.v (.prim .nilFunc)] := by kernel_rfl
theorem con66 : concT Tryd.prog 66 = true := by kernel_rfl
-- 67: func() api.Type
theorem lay67 : layT Tryd.prog 67 = some (false, 1) := by kernel_rfl
theorem zer67 : zeroT Tryd.prog 67 = some [.v (.prim .nilFunc)] := by kernel_rfl
theorem con67 : concT Tryd.prog 67 = true := by kernel_rfl
-- 68: func(api.Type, api.Type) bool
theorem lay68 : layT Tryd.prog 68 = some (false, 1) := by kernel_rfl
theorem zer68 : zeroT Tryd.prog 68 = some [.v (.prim .nilFunc)] := by kernel_rfl
theorem con68 : concT Tryd.prog 68 = true := by kernel_rfl
-- 69: func(api.Term, ...api.Term) api.Term
theorem lay69 : layT Tryd.prog 69 = some (false, 1) := by kernel_rfl
theorem zer69 : zeroT Tryd.prog 69 = some [.v (.prim .nilFunc)] := by kernel_rfl
theorem con69 : concT Tryd.prog 69 = true := by kernel_rfl
-- 70: func() api.Term
theorem lay70 : layT Tryd.prog 70 = some (false, 1) := by kernel_rfl
theorem zer70 : zeroT Tryd.prog 70 = some [.v (.prim .nilFunc)] := by kernel_rfl
theorem con70 : concT Tryd.prog 70 = true := by kernel_rfl
-- 71: func(api.Type, api.Type) api.Type
theorem lay71 : layT Tryd.prog 71 = some (false, 1) := by kernel_rfl
theorem zer71 : zeroT Tryd.prog 71 = some [.v (.prim .nilFunc)] := by kernel_rfl
theorem con71 : concT Tryd.prog 71 = true := by kernel_rfl
-- 72: func(api.Term) api.Errno
theorem lay72 : layT Tryd.prog 72 = some (false, 1) := by kernel_rfl
theorem zer72 : zeroT Tryd.prog 72 = some [.v (.prim .nilFunc)] := by kernel_rfl
theorem con72 : concT Tryd.prog 72 = true := by kernel_rfl
-- 73: func(api.Term)
theorem lay73 : layT Tryd.prog 73 = some (false, 1) := by kernel_rfl
theorem zer73 : zeroT Tryd.prog 73 = some [.v (.prim .nilFunc)] := by kernel_rfl
theorem con73 : concT Tryd.prog 73 = true := by kernel_rfl
-- 74: *proofprogramsref37.maker
theorem lay74 : layT Tryd.prog 74 = some (false, 1) := by kernel_rfl
theorem zer74 : zeroT Tryd.prog 74 = some [.v (.prim (.pointer none))] := by kernel_rfl
theorem ptr74 : ptrT Tryd.prog 74 = true := by kernel_rfl
theorem zrp74 : zeroP Tryd.prog 74 = some (.pointer none) := by kernel_rfl
theorem con74 : concT Tryd.prog 74 = true := by kernel_rfl
-- 75: struct { code []api.Instr; bodies []api.Term; places []int }
theorem lay75 : layT Tryd.prog 75 = some (true, 3) := by kernel_rfl
theorem zer75 : zeroT Tryd.prog 75 = some [.own 0 [], .own 0 [], .own 0 []] := by kernel_rfl
theorem pla75 : placesT Tryd.prog 75 = some [(0, 1), (1, 1), (2, 1)] := by kernel_rfl
theorem con75 : concT Tryd.prog 75 = true := by kernel_rfl
theorem fld75_0 : fieldT Tryd.prog 75 0 = some (false, 0, 1) := by kernel_rfl
theorem fld75_1 : fieldT Tryd.prog 75 1 = some (false, 1, 1) := by kernel_rfl
theorem fld75_2 : fieldT Tryd.prog 75 2 = some (false, 2, 1) := by kernel_rfl
-- 76: proofprogramsref37.maker
theorem lay76 : layT Tryd.prog 76 = some (true, 3) := by kernel_rfl
theorem zer76 : zeroT Tryd.prog 76 = some [.own 0 [], .own 0 [], .own 0 []] := by kernel_rfl
theorem pla76 : placesT Tryd.prog 76 = some [(0, 1), (1, 1), (2, 1)] := by kernel_rfl
theorem con76 : concT Tryd.prog 76 = true := by kernel_rfl
theorem fld76_0 : fieldT Tryd.prog 76 0 = some (false, 0, 1) := by kernel_rfl
theorem fld76_1 : fieldT Tryd.prog 76 1 = some (false, 1, 1) := by kernel_rfl
theorem fld76_2 : fieldT Tryd.prog 76 2 = some (false, 2, 1) := by kernel_rfl
-- 77: func(int, int)
theorem lay77 : layT Tryd.prog 77 = some (false, 1) := by kernel_rfl
theorem zer77 : zeroT Tryd.prog 77 = some [.v (.prim .nilFunc)] := by kernel_rfl
theorem con77 : concT Tryd.prog 77 = true := by kernel_rfl
-- 78: (api.Term, api.Type)
theorem lay78 : layT Tryd.prog 78 = some (false, 1) := by kernel_rfl
theorem con78 : concT Tryd.prog 78 = true := by kernel_rfl
-- 79: func(*proofprogramsmake.Deck) (api.Term, api.Type)
theorem lay79 : layT Tryd.prog 79 = some (false, 1) := by kernel_rfl
theorem zer79 : zeroT Tryd.prog 79 = some [.v (.prim .nilFunc)] := by kernel_rfl
theorem con79 : concT Tryd.prog 79 = true := by kernel_rfl
-- 80: ([]int, bool)
theorem lay80 : layT Tryd.prog 80 = some (false, 1) := by kernel_rfl
theorem con80 : concT Tryd.prog 80 = true := by kernel_rfl
-- 81: func([]api.Instr) ([]int, bool)
theorem lay81 : layT Tryd.prog 81 = some (false, 1) := by kernel_rfl
theorem zer81 : zeroT Tryd.prog 81 = some [.v (.prim .nilFunc)] := by kernel_rfl
theorem con81 : concT Tryd.prog 81 = true := by kernel_rfl
-- 82: map[int]api.Term
theorem lay82 : layT Tryd.prog 82 = some (false, 1) := by kernel_rfl
theorem zer82 : zeroT Tryd.prog 82 = some [.v (.prim (.map none))] := by kernel_rfl
theorem con82 : concT Tryd.prog 82 = true := by kernel_rfl
-- 83: struct { takes int; term int }
theorem lay83 : layT Tryd.prog 83 = some (true, 2) := by kernel_rfl
theorem zer83 : zeroT Tryd.prog 83 = some [.v (.prim (.int .i64 (0))), .v (.prim (.int .i64 (0)))] := by kernel_rfl
theorem pla83 : placesT Tryd.prog 83 = some [(0, 1), (1, 1)] := by kernel_rfl
theorem con83 : concT Tryd.prog 83 = true := by kernel_rfl
theorem fld83_0 : fieldT Tryd.prog 83 0 = some (false, 0, 1) := by kernel_rfl
theorem fld83_1 : fieldT Tryd.prog 83 1 = some (false, 1, 1) := by kernel_rfl
-- 84: code.op
theorem lay84 : layT Tryd.prog 84 = some (true, 2) := by kernel_rfl
theorem zer84 : zeroT Tryd.prog 84 = some [.v (.prim (.int .i64 (0))), .v (.prim (.int .i64 (0)))] := by kernel_rfl
theorem pla84 : placesT Tryd.prog 84 = some [(0, 1), (1, 1)] := by kernel_rfl
theorem con84 : concT Tryd.prog 84 = true := by kernel_rfl
theorem fld84_0 : fieldT Tryd.prog 84 0 = some (false, 0, 1) := by kernel_rfl
theorem fld84_1 : fieldT Tryd.prog 84 1 = some (false, 1, 1) := by kernel_rfl
-- 85: [14]code.op
theorem lay85 : layT Tryd.prog 85 = some (true, 28) := by kernel_rfl
theorem zer85 : zeroT Tryd.prog 85 = some [.v (.prim (.int .i64 (0))), .v (.prim (.int .i64 (0))), .v (.prim (.int .i64 (0))), .v (.prim (.int .i64 (0))), .v (.prim (.int .i64 (0))), .v (.prim (.int .i64 (0))), .v (.prim (.int .i64 (0))), .v (.prim (.int .i64 (0))), .v (.prim (.int .i64 (0))), .v (.prim (.int .i64 (0))), .v (.prim (.int .i64 (0))), .v (.prim (.int .i64 (0))), .v (.prim (.int .i64 (0))), .v (.prim (.int .i64 (0))), .v (.prim (.int .i64 (0))), .v (.prim (.int .i64 (0))), .v (.prim (.int .i64 (0))), .v (.prim (.int .i64 (0))), .v (.prim (.int .i64 (0))), .v (.prim (.int .i64 (0))), .v (.prim (.int .i64 (0))), .v (.prim (.int .i64 (0))), .v (.prim (.int .i64 (0))), .v (.prim (.int .i64 (0))), .v (.prim (.int .i64 (0))), .v (.prim (.int .i64 (0))), .v (.prim (.int .i64 (0))), .v (.prim (.int .i64 (0)))] := by kernel_rfl
theorem eln85 : elemT Tryd.prog 85 = none := by kernel_rfl
theorem arr85 : arrT Tryd.prog 85 = some (14, 2) := by kernel_rfl
theorem pla85 : placesT Tryd.prog 85 = some [(0, 2), (2, 2), (4, 2), (6, 2), (8, 2), (10, 2), (12, 2), (14, 2), (16, 2), (18, 2), (20, 2), (22, 2), (24, 2), (26, 2)] := by kernel_rfl
theorem con85 : concT Tryd.prog 85 = true := by kernel_rfl
-- 86: (api.Term, bool)
theorem lay86 : layT Tryd.prog 86 = some (false, 1) := by kernel_rfl
theorem con86 : concT Tryd.prog 86 = true := by kernel_rfl
-- 87: func([]api.Instr, int) (api.Term, bool)
theorem lay87 : layT Tryd.prog 87 = some (false, 1) := by kernel_rfl
theorem zer87 : zeroT Tryd.prog 87 = some [.v (.prim .nilFunc)] := by kernel_rfl
theorem con87 : concT Tryd.prog 87 = true := by kernel_rfl
-- 88: func([]api.Instr) bool
theorem lay88 : layT Tryd.prog 88 = some (false, 1) := by kernel_rfl
theorem zer88 : zeroT Tryd.prog 88 = some [.v (.prim .nilFunc)] := by kernel_rfl
theorem con88 : concT Tryd.prog 88 = true := by kernel_rfl
-- 89: func(api.Term) int
theorem lay89 : layT Tryd.prog 89 = some (false, 1) := by kernel_rfl
theorem zer89 : zeroT Tryd.prog 89 = some [.v (.prim .nilFunc)] := by kernel_rfl
theorem con89 : concT Tryd.prog 89 = true := by kernel_rfl
-- 90: func(int, int) int
theorem lay90 : layT Tryd.prog 90 = some (false, 1) := by kernel_rfl
theorem zer90 : zeroT Tryd.prog 90 = some [.v (.prim .nilFunc)] := by kernel_rfl
theorem con90 : concT Tryd.prog 90 = true := by kernel_rfl
-- 91: func(api.Type, int) int
theorem lay91 : layT Tryd.prog 91 = some (false, 1) := by kernel_rfl
theorem zer91 : zeroT Tryd.prog 91 = some [.v (.prim .nilFunc)] := by kernel_rfl
theorem con91 : concT Tryd.prog 91 = true := by kernel_rfl
-- 92: func(api.Type) api.Type
theorem lay92 : layT Tryd.prog 92 = some (false, 1) := by kernel_rfl
theorem zer92 : zeroT Tryd.prog 92 = some [.v (.prim .nilFunc)] := by kernel_rfl
theorem con92 : concT Tryd.prog 92 = true := by kernel_rfl
-- 93: func(int) (api.Term, api.Errno)
theorem lay93 : layT Tryd.prog 93 = some (false, 1) := by kernel_rfl
theorem zer93 : zeroT Tryd.prog 93 = some [.v (.prim .nilFunc)] := by kernel_rfl
theorem con93 : concT Tryd.prog 93 = true := by kernel_rfl
-- 94: func(api.Term, api.Term, api.Term) api.Term
theorem lay94 : layT Tryd.prog 94 = some (false, 1) := by kernel_rfl
theorem zer94 : zeroT Tryd.prog 94 = some [.v (.prim .nilFunc)] := by kernel_rfl
theorem con94 : concT Tryd.prog 94 = true := by kernel_rfl
-- 95: func(api.Term) bool
theorem lay95 : layT Tryd.prog 95 = some (false, 1) := by kernel_rfl
theorem zer95 : zeroT Tryd.prog 95 = some [.v (.prim .nilFunc)] := by kernel_rfl
theorem con95 : concT Tryd.prog 95 = true := by kernel_rfl
-- 96: func(*proofprogramsmake.Deck) api.Type
theorem lay96 : layT Tryd.prog 96 = some (false, 1) := by kernel_rfl
theorem zer96 : zeroT Tryd.prog 96 = some [.v (.prim .nilFunc)] := by kernel_rfl
theorem con96 : concT Tryd.prog 96 = true := by kernel_rfl
-- 97: func(api.Type, api.Term) api.Term
theorem lay97 : layT Tryd.prog 97 = some (false, 1) := by kernel_rfl
theorem zer97 : zeroT Tryd.prog 97 = some [.v (.prim .nilFunc)] := by kernel_rfl
theorem con97 : concT Tryd.prog 97 = true := by kernel_rfl
-- 98: (int, int)
theorem lay98 : layT Tryd.prog 98 = some (false, 1) := by kernel_rfl
theorem con98 : concT Tryd.prog 98 = true := by kernel_rfl
-- 99: func(int) (int, int)
theorem lay99 : layT Tryd.prog 99 = some (false, 1) := by kernel_rfl
theorem zer99 : zeroT Tryd.prog 99 = some [.v (.prim .nilFunc)] := by kernel_rfl
theorem con99 : concT Tryd.prog 99 = true := by kernel_rfl
-- 100: func([]api.Instr) []int
theorem lay100 : layT Tryd.prog 100 = some (false, 1) := by kernel_rfl
theorem zer100 : zeroT Tryd.prog 100 = some [.v (.prim .nilFunc)] := by kernel_rfl
theorem con100 : concT Tryd.prog 100 = true := by kernel_rfl
-- 101: (int, bool)
theorem lay101 : layT Tryd.prog 101 = some (false, 1) := by kernel_rfl
theorem con101 : concT Tryd.prog 101 = true := by kernel_rfl
-- 102: func(api.Term) (int, bool)
theorem lay102 : layT Tryd.prog 102 = some (false, 1) := by kernel_rfl
theorem zer102 : zeroT Tryd.prog 102 = some [.v (.prim .nilFunc)] := by kernel_rfl
theorem con102 : concT Tryd.prog 102 = true := by kernel_rfl
-- 103: func(api.Type) api.Errno
theorem lay103 : layT Tryd.prog 103 = some (false, 1) := by kernel_rfl
theorem zer103 : zeroT Tryd.prog 103 = some [.v (.prim .nilFunc)] := by kernel_rfl
theorem con103 : concT Tryd.prog 103 = true := by kernel_rfl
-- 104: func(api.Type) bool
theorem lay104 : layT Tryd.prog 104 = some (false, 1) := by kernel_rfl
theorem zer104 : zeroT Tryd.prog 104 = some [.v (.prim .nilFunc)] := by kernel_rfl
theorem con104 : concT Tryd.prog 104 = true := by kernel_rfl
-- 105: func(int) (int, bool)
theorem lay105 : layT Tryd.prog 105 = some (false, 1) := by kernel_rfl
theorem zer105 : zeroT Tryd.prog 105 = some [.v (.prim .nilFunc)] := by kernel_rfl
theorem con105 : concT Tryd.prog 105 = true := by kernel_rfl
-- 106: func(int) bool
theorem lay106 : layT Tryd.prog 106 = some (false, 1) := by kernel_rfl
theorem zer106 : zeroT Tryd.prog 106 = some [.v (.prim .nilFunc)] := by kernel_rfl
theorem con106 : concT Tryd.prog 106 = true := by kernel_rfl
-- 107: func(api.Type) (int, api.Errno)
theorem lay107 : layT Tryd.prog 107 = some (false, 1) := by kernel_rfl
theorem zer107 : zeroT Tryd.prog 107 = some [.v (.prim .nilFunc)] := by kernel_rfl
theorem con107 : concT Tryd.prog 107 = true := by kernel_rfl
-- 108: func(api.Type) int
theorem lay108 : layT Tryd.prog 108 = some (false, 1) := by kernel_rfl
theorem zer108 : zeroT Tryd.prog 108 = some [.v (.prim .nilFunc)] := by kernel_rfl
theorem con108 : concT Tryd.prog 108 = true := by kernel_rfl
-- 109: [14]int
theorem lay109 : layT Tryd.prog 109 = some (true, 14) := by kernel_rfl
theorem zer109 : zeroT Tryd.prog 109 = some [.v (.prim (.int .i64 (0))), .v (.prim (.int .i64 (0))), .v (.prim (.int .i64 (0))), .v (.prim (.int .i64 (0))), .v (.prim (.int .i64 (0))), .v (.prim (.int .i64 (0))), .v (.prim (.int .i64 (0))), .v (.prim (.int .i64 (0))), .v (.prim (.int .i64 (0))), .v (.prim (.int .i64 (0))), .v (.prim (.int .i64 (0))), .v (.prim (.int .i64 (0))), .v (.prim (.int .i64 (0))), .v (.prim (.int .i64 (0)))] := by kernel_rfl
theorem eln109 : elemT Tryd.prog 109 = none := by kernel_rfl
theorem arr109 : arrT Tryd.prog 109 = some (14, 1) := by kernel_rfl
theorem pla109 : placesT Tryd.prog 109 = some [(0, 1), (1, 1), (2, 1), (3, 1), (4, 1), (5, 1), (6, 1), (7, 1), (8, 1), (9, 1), (10, 1), (11, 1), (12, 1), (13, 1)] := by kernel_rfl
theorem con109 : concT Tryd.prog 109 = true := by kernel_rfl
-- 110: func(api.Type) (int, bool)
theorem lay110 : layT Tryd.prog 110 = some (false, 1) := by kernel_rfl
theorem zer110 : zeroT Tryd.prog 110 = some [.v (.prim .nilFunc)] := by kernel_rfl
theorem con110 : concT Tryd.prog 110 = true := by kernel_rfl
-- 111: func() string
theorem lay111 : layT Tryd.prog 111 = some (false, 1) := by kernel_rfl
theorem zer111 : zeroT Tryd.prog 111 = some [.v (.prim .nilFunc)] := by kernel_rfl
theorem con111 : concT Tryd.prog 111 = true := by kernel_rfl
-- 112: struct { _interface *abi.Type; concrete *abi.Type; asserted *abi.Type; missingMethod string }
theorem lay112 : layT Tryd.prog 112 = some (true, 4) := by kernel_rfl
theorem zer112 : zeroT Tryd.prog 112 = some [.v (.prim (.pointer none)), .v (.prim (.pointer none)), .v (.prim (.pointer none)), .v (.prim (.string ByteArray.empty))] := by kernel_rfl
theorem pla112 : placesT Tryd.prog 112 = some [(0, 1), (1, 1), (2, 1), (3, 1)] := by kernel_rfl
theorem con112 : concT Tryd.prog 112 = true := by kernel_rfl
theorem fld112_0 : fieldT Tryd.prog 112 0 = some (false, 0, 1) := by kernel_rfl
theorem fld112_1 : fieldT Tryd.prog 112 1 = some (false, 1, 1) := by kernel_rfl
theorem fld112_2 : fieldT Tryd.prog 112 2 = some (false, 2, 1) := by kernel_rfl
theorem fld112_3 : fieldT Tryd.prog 112 3 = some (false, 3, 1) := by kernel_rfl
-- 113: runtime.TypeAssertionError
theorem lay113 : layT Tryd.prog 113 = some (true, 4) := by kernel_rfl
theorem zer113 : zeroT Tryd.prog 113 = some [.v (.prim (.pointer none)), .v (.prim (.pointer none)), .v (.prim (.pointer none)), .v (.prim (.string ByteArray.empty))] := by kernel_rfl
theorem pla113 : placesT Tryd.prog 113 = some [(0, 1), (1, 1), (2, 1), (3, 1)] := by kernel_rfl
theorem con113 : concT Tryd.prog 113 = true := by kernel_rfl
theorem fld113_0 : fieldT Tryd.prog 113 0 = some (false, 0, 1) := by kernel_rfl
theorem fld113_1 : fieldT Tryd.prog 113 1 = some (false, 1, 1) := by kernel_rfl
theorem fld113_2 : fieldT Tryd.prog 113 2 = some (false, 2, 1) := by kernel_rfl
theorem fld113_3 : fieldT Tryd.prog 113 3 = some (false, 3, 1) := by kernel_rfl
-- 114: [0]*runtime.PanicNilError
theorem lay114 : layT Tryd.prog 114 = some (true, 0) := by kernel_rfl
theorem zer114 : zeroT Tryd.prog 114 = some [] := by kernel_rfl
theorem eln114 : elemT Tryd.prog 114 = none := by kernel_rfl
theorem arr114 : arrT Tryd.prog 114 = some (0, 1) := by kernel_rfl
theorem pla114 : placesT Tryd.prog 114 = some [] := by kernel_rfl
theorem con114 : concT Tryd.prog 114 = true := by kernel_rfl
-- 115: struct { _ [0]*runtime.PanicNilError }
theorem lay115 : layT Tryd.prog 115 = some (true, 0) := by kernel_rfl
theorem zer115 : zeroT Tryd.prog 115 = some [] := by kernel_rfl
theorem pla115 : placesT Tryd.prog 115 = some [(0, 0)] := by kernel_rfl
theorem con115 : concT Tryd.prog 115 = true := by kernel_rfl
-- 116: runtime.PanicNilError
theorem lay116 : layT Tryd.prog 116 = some (true, 0) := by kernel_rfl
theorem zer116 : zeroT Tryd.prog 116 = some [] := by kernel_rfl
theorem pla116 : placesT Tryd.prog 116 = some [(0, 0)] := by kernel_rfl
theorem con116 : concT Tryd.prog 116 = true := by kernel_rfl
-- 117: func() int
theorem lay117 : layT Tryd.prog 117 = some (false, 1) := by kernel_rfl
theorem zer117 : zeroT Tryd.prog 117 = some [.v (.prim .nilFunc)] := by kernel_rfl
theorem con117 : concT Tryd.prog 117 = true := by kernel_rfl
-- 118: uint32
theorem lay118 : layT Tryd.prog 118 = some (false, 1) := by kernel_rfl
theorem zer118 : zeroT Tryd.prog 118 = some [.v (.prim (.int .u32 (0)))] := by kernel_rfl
theorem zrp118 : zeroP Tryd.prog 118 = some (.int .u32 (0)) := by kernel_rfl
theorem con118 : concT Tryd.prog 118 = true := by kernel_rfl
theorem int118 : intT Tryd.prog 118 = some .u32 := by kernel_rfl
-- 119: abi.TFlag
theorem lay119 : layT Tryd.prog 119 = some (false, 1) := by kernel_rfl
theorem zer119 : zeroT Tryd.prog 119 = some [.v (.prim (.int .u8 (0)))] := by kernel_rfl
theorem zrp119 : zeroP Tryd.prog 119 = some (.int .u8 (0)) := by kernel_rfl
theorem con119 : concT Tryd.prog 119 = true := by kernel_rfl
theorem int119 : intT Tryd.prog 119 = some .u8 := by kernel_rfl
-- 120: abi.Kind
theorem lay120 : layT Tryd.prog 120 = some (false, 1) := by kernel_rfl
theorem zer120 : zeroT Tryd.prog 120 = some [.v (.prim (.int .u8 (0)))] := by kernel_rfl
theorem zrp120 : zeroP Tryd.prog 120 = some (.int .u8 (0)) := by kernel_rfl
theorem con120 : concT Tryd.prog 120 = true := by kernel_rfl
theorem int120 : intT Tryd.prog 120 = some .u8 := by kernel_rfl
-- 121: func(unsafe.Pointer, unsafe.Pointer) bool
theorem lay121 : layT Tryd.prog 121 = some (false, 1) := by kernel_rfl
theorem zer121 : zeroT Tryd.prog 121 = some [.v (.prim .nilFunc)] := by kernel_rfl
theorem con121 : concT Tryd.prog 121 = true := by kernel_rfl
-- 122: *uint8
theorem lay122 : layT Tryd.prog 122 = some (false, 1) := by kernel_rfl
theorem zer122 : zeroT Tryd.prog 122 = some [.v (.prim (.pointer none))] := by kernel_rfl
theorem ptr122 : ptrT Tryd.prog 122 = true := by kernel_rfl
theorem zrp122 : zeroP Tryd.prog 122 = some (.pointer none) := by kernel_rfl
theorem con122 : concT Tryd.prog 122 = true := by kernel_rfl
-- 123: abi.NameOff
theorem lay123 : layT Tryd.prog 123 = some (false, 1) := by kernel_rfl
theorem zer123 : zeroT Tryd.prog 123 = some [.v (.prim (.int .i32 (0)))] := by kernel_rfl
theorem zrp123 : zeroP Tryd.prog 123 = some (.int .i32 (0)) := by kernel_rfl
theorem con123 : concT Tryd.prog 123 = true := by kernel_rfl
theorem int123 : intT Tryd.prog 123 = some .i32 := by kernel_rfl
-- 124: abi.TypeOff
theorem lay124 : layT Tryd.prog 124 = some (false, 1) := by kernel_rfl
theorem zer124 : zeroT Tryd.prog 124 = some [.v (.prim (.int .i32 (0)))] := by kernel_rfl
theorem zrp124 : zeroP Tryd.prog 124 = some (.int .i32 (0)) := by kernel_rfl
theorem con124 : concT Tryd.prog 124 = true := by kernel_rfl
theorem int124 : intT Tryd.prog 124 = some .i32 := by kernel_rfl
-- 125: struct { Size_ uintptr; PtrBytes uintptr; Hash uint32; TFlag abi.TFlag; Align_ uint8; FieldAlign_ uint8; Kind_ abi.Kind; Equal func(unsafe.Pointer, unsafe.Pointer) bool; GCData *uint8; Str abi.NameOff; PtrToThis abi.TypeOff }
theorem lay125 : layT Tryd.prog 125 = some (true, 11) := by kernel_rfl
theorem zer125 : zeroT Tryd.prog 125 = some [.v (.prim (.int .u64 (0))), .v (.prim (.int .u64 (0))), .v (.prim (.int .u32 (0))), .v (.prim (.int .u8 (0))), .v (.prim (.int .u8 (0))), .v (.prim (.int .u8 (0))), .v (.prim (.int .u8 (0))), .v (.prim .nilFunc), .v (.prim (.pointer none)), .v (.prim (.int .i32 (0))), .v (.prim (.int .i32 (0)))] := by kernel_rfl
theorem pla125 : placesT Tryd.prog 125 = some [(0, 1), (1, 1), (2, 1), (3, 1), (4, 1), (5, 1), (6, 1), (7, 1), (8, 1), (9, 1), (10, 1)] := by kernel_rfl
theorem con125 : concT Tryd.prog 125 = true := by kernel_rfl
theorem fld125_0 : fieldT Tryd.prog 125 0 = some (false, 0, 1) := by kernel_rfl
theorem fld125_1 : fieldT Tryd.prog 125 1 = some (false, 1, 1) := by kernel_rfl
theorem fld125_2 : fieldT Tryd.prog 125 2 = some (false, 2, 1) := by kernel_rfl
theorem fld125_3 : fieldT Tryd.prog 125 3 = some (false, 3, 1) := by kernel_rfl
theorem fld125_4 : fieldT Tryd.prog 125 4 = some (false, 4, 1) := by kernel_rfl
theorem fld125_5 : fieldT Tryd.prog 125 5 = some (false, 5, 1) := by kernel_rfl
theorem fld125_6 : fieldT Tryd.prog 125 6 = some (false, 6, 1) := by kernel_rfl
theorem fld125_7 : fieldT Tryd.prog 125 7 = some (false, 7, 1) := by kernel_rfl
theorem fld125_8 : fieldT Tryd.prog 125 8 = some (false, 8, 1) := by kernel_rfl
theorem fld125_9 : fieldT Tryd.prog 125 9 = some (false, 9, 1) := by kernel_rfl
theorem fld125_10 : fieldT Tryd.prog 125 10 = some (false, 10, 1) := by kernel_rfl
-- 126: abi.Type
theorem lay126 : layT Tryd.prog 126 = some (true, 11) := by kernel_rfl
theorem zer126 : zeroT Tryd.prog 126 = some [.v (.prim (.int .u64 (0))), .v (.prim (.int .u64 (0))), .v (.prim (.int .u32 (0))), .v (.prim (.int .u8 (0))), .v (.prim (.int .u8 (0))), .v (.prim (.int .u8 (0))), .v (.prim (.int .u8 (0))), .v (.prim .nilFunc), .v (.prim (.pointer none)), .v (.prim (.int .i32 (0))), .v (.prim (.int .i32 (0)))] := by kernel_rfl
theorem pla126 : placesT Tryd.prog 126 = some [(0, 1), (1, 1), (2, 1), (3, 1), (4, 1), (5, 1), (6, 1), (7, 1), (8, 1), (9, 1), (10, 1)] := by kernel_rfl
theorem con126 : concT Tryd.prog 126 = true := by kernel_rfl
theorem fld126_0 : fieldT Tryd.prog 126 0 = some (false, 0, 1) := by kernel_rfl
theorem fld126_1 : fieldT Tryd.prog 126 1 = some (false, 1, 1) := by kernel_rfl
theorem fld126_2 : fieldT Tryd.prog 126 2 = some (false, 2, 1) := by kernel_rfl
theorem fld126_3 : fieldT Tryd.prog 126 3 = some (false, 3, 1) := by kernel_rfl
theorem fld126_4 : fieldT Tryd.prog 126 4 = some (false, 4, 1) := by kernel_rfl
theorem fld126_5 : fieldT Tryd.prog 126 5 = some (false, 5, 1) := by kernel_rfl
theorem fld126_6 : fieldT Tryd.prog 126 6 = some (false, 6, 1) := by kernel_rfl
theorem fld126_7 : fieldT Tryd.prog 126 7 = some (false, 7, 1) := by kernel_rfl
theorem fld126_8 : fieldT Tryd.prog 126 8 = some (false, 8, 1) := by kernel_rfl
theorem fld126_9 : fieldT Tryd.prog 126 9 = some (false, 9, 1) := by kernel_rfl
theorem fld126_10 : fieldT Tryd.prog 126 10 = some (false, 10, 1) := by kernel_rfl
-- 127: unsafe.Pointer
theorem lay127 : layT Tryd.prog 127 = some (false, 1) := by kernel_rfl
theorem zer127 : zeroT Tryd.prog 127 = some [.v (.prim (.pointer none))] := by kernel_rfl
theorem zrp127 : zeroP Tryd.prog 127 = some (.pointer none) := by kernel_rfl
theorem con127 : concT Tryd.prog 127 = true := by kernel_rfl

attribute [go_sem] lay0 con0 lay1 zer1 con1 lay2 zer2 zrp2 con2 int2 lay3 zer3 zrp3 con3 int3 lay4 zer4 boo4 con4 lay5 zer5 zrp5 con5 int5 lay6 zer6 zrp6 con6 int6 lay7 zer7 pla7 con7 fld7_0 fld7_1 fld7_2 fld7_3 lay8 zer8 pla8 con8 fld8_0 fld8_1 fld8_2 fld8_3 lay9 zer9 con9 lay10 zer10 con10 lay11 zer11 con11 lay12 zer12 zrp12 con12 int12 lay13 zer13 pla13 con13 fld13_0 fld13_1 lay14 zer14 pla14 con14 fld14_0 fld14_1 lay15 zer15 ptr15 zrp15 con15 lay16 zer16 ptr16 zrp16 con16 lay17 zer17 ptr17 zrp17 con17 lay18 zer18 pla18 con18 fld18_0 lay19 zer19 pla19 con19 fld19_0 lay20 zer20 lay21 zer21 zrp21 con21 int21 lay22 zer22 ele22 elz22 con22 lay23 zer23 ele23 elz23 con23 lay24 zer24 pla24 con24 fld24_0 fld24_1 lay25 zer25 pla25 con25 fld25_0 fld25_1 lay26 zer26 ele26 elz26 con26 lay27 zer27 pla27 con27 fld27_0 fld27_1 fld27_2 fld27_3 lay28 zer28 pla28 con28 fld28_0 fld28_1 fld28_2 fld28_3 lay29 zer29 ele29 elz29 con29 lay30 zer30 con30 lay31 zer31 con31 lay32 zer32 pla32 con32 fld32_0 lay33 zer33 pla33 con33 fld33_0 lay34 zer34 con34 lay35 zer35 con35 lay36 zer36 ptr36 zrp36 con36 lay37 zer37 con37 lay38 zer38 con38 lay39 zer39 con39 lay40 zer40 con40 lay41 zer41 zrp41 con41 int41 lay42 con42 lay43 zer43 con43 lay44 zer44 con44 lay45 zer45 pla45 con45 fld45_0 fld45_1 lay46 zer46 pla46 con46 fld46_0 fld46_1 lay47 zer47 con47 lay48 zer48 ele48 elz48 con48 lay49 con49 lay50 zer50 con50 lay51 zer51 con51 lay52 zer52 con52 lay53 zer53 con53 lay54 con54 lay55 zer55 con55 lay56 zer56 con56 lay57 zer57 con57 lay58 zer58 con58 lay59 zer59 con59 lay60 zer60 con60 lay61 zer61 pla61 con61 fld61_0 fld61_1 lay62 zer62 pla62 con62 fld62_0 fld62_1 lay63 zer63 con63 lay64 zer64 con64 lay65 zer65 con65 lay66 zer66 con66 lay67 zer67 con67 lay68 zer68 con68 lay69 zer69 con69 lay70 zer70 con70 lay71 zer71 con71 lay72 zer72 con72 lay73 zer73 con73 lay74 zer74 ptr74 zrp74 con74 lay75 zer75 pla75 con75 fld75_0 fld75_1 fld75_2 lay76 zer76 pla76 con76 fld76_0 fld76_1 fld76_2 lay77 zer77 con77 lay78 con78 lay79 zer79 con79 lay80 con80 lay81 zer81 con81 lay82 zer82 con82 lay83 zer83 pla83 con83 fld83_0 fld83_1 lay84 zer84 pla84 con84 fld84_0 fld84_1 lay85 zer85 eln85 arr85 pla85 con85 lay86 con86 lay87 zer87 con87 lay88 zer88 con88 lay89 zer89 con89 lay90 zer90 con90 lay91 zer91 con91 lay92 zer92 con92 lay93 zer93 con93 lay94 zer94 con94 lay95 zer95 con95 lay96 zer96 con96 lay97 zer97 con97 lay98 con98 lay99 zer99 con99 lay100 zer100 con100 lay101 con101 lay102 zer102 con102 lay103 zer103 con103 lay104 zer104 con104 lay105 zer105 con105 lay106 zer106 con106 lay107 zer107 con107 lay108 zer108 con108 lay109 zer109 eln109 arr109 pla109 con109 lay110 zer110 con110 lay111 zer111 con111 lay112 zer112 pla112 con112 fld112_0 fld112_1 fld112_2 fld112_3 lay113 zer113 pla113 con113 fld113_0 fld113_1 fld113_2 fld113_3 lay114 zer114 eln114 arr114 pla114 con114 lay115 zer115 pla115 con115 lay116 zer116 pla116 con116 lay117 zer117 con117 lay118 zer118 zrp118 con118 int118 lay119 zer119 zrp119 con119 int119 lay120 zer120 zrp120 con120 int120 lay121 zer121 con121 lay122 zer122 ptr122 zrp122 con122 lay123 zer123 zrp123 con123 int123 lay124 zer124 zrp124 con124 int124 lay125 zer125 pla125 con125 fld125_0 fld125_1 fld125_2 fld125_3 fld125_4 fld125_5 fld125_6 fld125_7 fld125_8 fld125_9 fld125_10 lay126 zer126 pla126 con126 fld126_0 fld126_1 fld126_2 fld126_3 fld126_4 fld126_5 fld126_6 fld126_7 fld126_8 fld126_9 fld126_10 lay127 zer127 zrp127 con127
end Go.Proofs.YtmdjiajbnifjpaaDoor.Lift

namespace Go.Proofs.YtmdjiajbnifjpaaDoor.Lift
set_option linter.unusedSimpArgs false
set_option linter.unusedVariables false
set_option linter.unnecessarySimpa false
open Go
variable {gl : Globs}

theorem ref01_copy_ok (t : Ty) : Con1 Tryd.prog gl 63 [t.dv] [] t.dv [] := by
  induction t using Ty.ind with
  | h t ih =>
  refine t_in Tryd.func63 ?_
  intro X hP hgl hf hfn hn hR hids hfit
  have htf : t.fit := (Ty.dv_fit t).1 (hfit _ (by simp))
  have hlen : t.args.length ≤ 2147483648 := ((Ty.fit_eq t).1 htf).2.1
  refine t_rg0 ?_
  refine t_rg0 ?_
  refine t_rg0 ?_
  refine t_a ?_
  refine W_sub [(1003, 0)] ?_ ?_ ?_ (W_list t.args (fun done rest => [(.slot 2, .one (.loc 2 0)), (.loc 2, .row [.v (dint 0), .own 0 []]), (.slot 1, .one (.loc 1 0)), (.loc 1, .row [.v (dint t.kind), .v (.sl (t.args.map Ty.cells))]),
      (.slot 3, .one (.own 1003 (done.map Ty.cells))), (.tok 1003, .tk 2 done.length), (.slot 7, .one (.v (.sl (t.args.map Ty.cells)))), (.slot 8, .one (.v (dint t.args.length))), (.slot 9, .one (.v (dint done.length)))]) ?_ ?_)
  · simp [go_sem]
  · simp [go_sem]
  · simp [go_sem]
  · intro done x rest hL hg hnext
    have hlt : done.length < t.args.length := by rw [hL]; simp
    refine t_rg0 ?_
    refine t_yes ?_
    refine t_rg @hg ?_
    refine t_a ?_
    first | refine W_reg [] fun K hK => ?_ | refine W_regd (by rw [hP]; exact mixed) [] fun K hK => ?_
    refine t_s0 ?_
    refine t_c trivial (ih x (List.mem_of_getElem? hg)) ?_
    refine t_e ?_
    clear hK K
    refine t_rg0 ?_
    refine t_b ?_
    refine t_sub [(1003, 17)] trivial hnext
  · refine t_rg0 ?_
    refine t_no ?_
    refine t_rg0 ?_
    refine t_r ?_
    simp [go_sem, hP, hgl, hn] <;> (try omega)

theorem ref01_same_ok (a b : Ty) : Con1 Tryd.prog gl 40 [a.dv, b.dv] [] (dbool (a.same b)) [] := by
  induction a using Ty.ind generalizing b with
  | h a ih =>
  refine t_in Tryd.func40 ?_
  intro X hP hgl hf hfn hn hR hids hfit
  have hfa : a.fit := (Ty.dv_fit a).1 (hfit _ (by simp))
  have hfb : b.fit := (Ty.dv_fit b).1 (hfit _ (by simp))
  have hla : a.args.length ≤ 2147483648 := ((Ty.fit_eq a).1 hfa).2.1
  have hlb : b.args.length ≤ 2147483648 := ((Ty.fit_eq b).1 hfb).2.1
  refine t_rg0 ?_
  by_cases hk : a.kind = b.kind
  · refine t_rg @hk ?_
    by_cases hl : a.args.length = b.args.length
    · refine t_a ?_
      refine W_cond rfl ?_ ?_
      · intro h; simp [hl] at h
      intro _
      refine t_rg0 ?_
      refine t_a ?_
      refine W_sub [] ?_ ?_ ?_ (W_upto a.args.length (fun i => ∀ (j : Nat) (x y : Ty), j < i → a.args[j]? = some x → b.args[j]? = some y → x.same y = true)
        (fun i => [(.slot 2, .one (.loc 2 0)), (.loc 2, .row [.v (dint a.kind), .v (.sl (a.args.map Ty.cells))]), (.slot 3, .one (.loc 3 0)), (.loc 3, .row [.v (dint b.kind), .v (.sl (b.args.map Ty.cells))]), (.slot 22, .one (.v (dint a.args.length))), (.slot 23, .one (.v (dint i)))]) (by intro j x y h; omega) ?_ ?_)
      · simp [go_sem]
      · simp [go_sem, hk, hl]
      · simp [go_sem]
      · intro i hi hI hnext
        obtain ⟨x, hx⟩ : ∃ x, a.args[i]? = some x := ⟨_, List.getElem?_eq_getElem hi⟩
        obtain ⟨y, hy⟩ : ∃ y, b.args[i]? = some y := ⟨_, List.getElem?_eq_getElem (by omega)⟩
        refine t_rg0 ?_
        refine t_yes ?_
        refine t_rg0 ?_
        refine t_a ?_
        first | refine W_reg [] fun K hK => ?_ | refine W_regd (by rw [hP]; exact mixed) [] fun K hK => ?_
        refine t_s (j2 @hx @hy) ?_
        refine t_c trivial (ih x (List.mem_of_getElem? hx) y) ?_
        refine t_e ?_
        clear hK K
        by_cases hs : x.same y = true
        · refine t_a ?_
          refine W_cond rfl ?_ ?_
          · intro h; simp [hs] at h
          intro _
          refine t_rg0 ?_
          refine t_b ?_
          refine t_sub [] trivial (hnext ?_)
          intro j x' y' hj hx' hy'
          by_cases hji : j = i
          · subst hji; rw [hx] at hx'; rw [hy] at hy'; cases hx'; cases hy'; exact hs
          · exact hI j x' y' (by omega) hx' hy'
        · refine t_a ?_
          refine W_cond rfl ?_ ?_
          rotate_left
          · intro h; simp [hs] at h
          intro _
          refine t_rg0 ?_
          refine t_r ?_
          simp [go_sem, hP, hgl, hn] <;> (try omega)
          refine Bool.eq_false_iff.2 ?_
          intro h
          rw [Ty.same_eq, Bool.and_eq_true, Ty.sames_iff] at h
          exact hs (h.2.2 i x y hx hy)
      · intro hI
        refine t_rg0 ?_
        refine t_no ?_
        refine t_rg0 ?_
        refine t_r ?_
        simp [go_sem, hP, hgl, hn] <;> (try omega)
        rw [Ty.same_eq, Bool.and_eq_true, Ty.sames_iff]
        exact ⟨by simp [hk], hl, fun i x y hx hy => hI i x y (List.getElem?_eq_some_iff.1 hx).1 hx hy⟩
    · refine t_a ?_
      refine W_cond rfl ?_ ?_
      rotate_left
      · intro h; simp at h; omega
      intro _
      refine t_rg0 ?_
      refine t_r ?_
      simp [go_sem, hP, hgl, hn] <;> (try omega)
      refine Bool.eq_false_iff.2 ?_
      intro h
      rw [Ty.same_eq, Bool.and_eq_true, Ty.sames_iff] at h
      exact hl h.2.1
  · refine t_rg @hk ?_
    refine t_a ?_
    refine W_cond rfl ?_ ?_
    rotate_left
    · intro h; simp at h
    intro _
    refine t_rg0 ?_
    refine t_r ?_
    simp [go_sem, hP, hgl, hn] <;> (try omega)
    simp [Ty.same_eq, hk]

theorem ref01_nat_ok : Con1 Tryd.prog gl 37 [] [] (Ty.mk 1 []).dv [] := by
  refine t_in Tryd.func37 ?_
  intro X hP hgl hf hfn hn hR hids hfit
  refine t_rg0 ?_
  refine t_rg0 ?_
  refine t_r ?_
  simp [go_sem, hP, hgl, hn] <;> (try omega)
  all_goals exact t_f

theorem ref01_list_ok : Con1 Tryd.prog gl 39 [] [] (Ty.mk 2 []).dv [] := by
  refine t_in Tryd.func39 ?_
  intro X hP hgl hf hfn hn hR hids hfit
  refine t_rg0 ?_
  refine t_rg0 ?_
  refine t_r ?_
  simp [go_sem, hP, hgl, hn] <;> (try omega)
  all_goals exact t_f

theorem ref01_unit_ok : Con1 Tryd.prog gl 44 [] [] (Ty.mk 5 []).dv [] := by
  refine t_in Tryd.func44 ?_
  intro X hP hgl hf hfn hn hR hids hfit
  refine t_rg0 ?_
  refine t_rg0 ?_
  refine t_r ?_
  simp [go_sem, hP, hgl, hn] <;> (try omega)
  all_goals exact t_f

theorem ref01_two_ok (a b : Ty) : Con1 Tryd.prog gl 45 [a.dv, b.dv] [] (Ty.mk 3 [a, b]).dv [] := by
  refine t_in Tryd.func45 ?_
  intro X hP hgl hf hfn hn hR hids hfit
  refine t_rg0 ?_
  refine t_a ?_
  first | refine W_reg [] fun K hK => ?_ | refine W_regd (by rw [hP]; exact mixed) [] fun K hK => ?_
  refine t_s0 ?_
  refine t_c trivial (ref01_copy_ok a) ?_
  refine t_c trivial (ref01_copy_ok b) ?_
  refine t_e ?_
  clear hK K
  refine t_r ?_
  simp [go_sem, hP, hgl, hn] <;> (try omega)
  all_goals exact t_f
end Go.Proofs.YtmdjiajbnifjpaaDoor.Lift

namespace Go.Proofs.YtmdjiajbnifjpaaDoor.Lift
set_option linter.unusedSimpArgs false
set_option linter.unusedVariables false
set_option linter.unnecessarySimpa false
open Go
variable {gl : Globs}

theorem Tm.fit_len {t : Tm} (h : t.dv.fit) : t.args.length ≤ 2147483648 := ((Tm.fit_eq t).1 ((Tm.dv_fit t).1 h)).2.2.2.1
theorem sl_len {l : List (List DV)} (h : DV.fit (.sl l)) : l.length ≤ 2147483648 := by simp [DV.fit, BIG] at h; exact h.1

theorem ref02_copy_ok (t : Tm) : Con1 Tryd.prog gl 62 [t.dv] [] t.dv [] := by
  induction t using Tm.ind with
  | h t ih =>
  refine t_in Tryd.func62 ?_
  intro X hP hgl hf hfn hn hR hids hfit
  have hlen := Tm.fit_len (hfit t.dv (by simp))
  refine t_rg0 ?_
  refine t_rg0 ?_
  refine t_rg0 ?_
  refine t_a ?_
  refine t_sub [(1003, 0)] trivial (W_list (t.args) (fun done rest => [(.slot 9, .one (.v (dint done.length))), (.slot 8, .one (.v (dint t.args.length))), (.slot 7, .one (.v (.sl (t.args.map Tm.cells)))), (.slot 3, .one (.own 1003 (done.map Tm.cells))), (.tok 1003, .tk 5 done.length), (.loc 2, .row ([.v (dint 0), .v (dint 0), .v (dint 0), .own 0 [], .own 0 []])), (.slot 2, .one (.loc 2 0)), (.loc 1, .row ([.v (dint t.kind), .v (dint t.index), .v (dint t.type.kind), .v (.sl (t.type.args.map Ty.cells)), .v (.sl (t.args.map Tm.cells))])), (.slot 1, .one (.loc 1 0))]) ?_ ?_)
  · intro done x rest hL hg hnext
    have hlt : done.length < t.args.length := by rw [hL]; simp
    refine t_rg0 ?_
    refine t_yes ?_
    refine t_rg @hg ?_
    refine t_a ?_
    first | refine W_reg [] fun K hK => ?_ | refine W_regd (by rw [hP]; exact mixed) [] fun K hK => ?_
    refine t_s0 ?_
    refine t_c trivial (ih x (List.mem_of_getElem? hg)) ?_
    refine t_e ?_
    clear hK K
    refine t_rg0 ?_
    refine t_b ?_
    refine t_sub [(1003, 17)] trivial hnext
  · refine t_rg0 ?_
    refine t_no ?_
    refine t_a ?_
    first | refine W_reg [] fun K hK => ?_ | refine W_regd (by rw [hP]; exact mixed) [] fun K hK => ?_
    refine t_s0 ?_
    refine t_c trivial (ref01_copy_ok t.type) ?_
    refine t_e ?_
    clear hK K
    refine t_r ?_
    simp [go_sem, hP, hgl, hn] <;> (try omega)

/-- the number of nodes -/
def Tm.count : Tm → Nat
  | .mk _ _ _ l => 1 + counts l
where
  counts : List Tm → Nat
    | [] => 0
    | a :: r => a.count + counts r
theorem Tm.count_eq (t : Tm) : t.count = 1 + Tm.count.counts t.args := by cases t; rfl
theorem Tm.counts_append (l m : List Tm) : Tm.count.counts (l ++ m) = Tm.count.counts l + Tm.count.counts m := by
  induction l with
  | nil => simp [Tm.count.counts]
  | cons a r ih => simp [Tm.count.counts, ih]; omega

theorem ref02_count_ok (t : Tm) (hc : t.count ≤ 2147483648) : Con1 Tryd.prog gl 58 [t.dv] [] (dint t.count) [] := by
  induction t using Tm.ind with
  | h t ih =>
  refine t_in Tryd.func58 ?_
  intro X hP hgl hf hfn hn hR hids hfit
  have hlen := Tm.fit_len (hfit t.dv (by simp))
  rw [Tm.count_eq] at hc
  refine t_rg0 ?_
  refine t_rg0 ?_
  refine t_rg0 ?_
  refine t_a ?_
  refine W_sub [] (by simp [go_sem]) (by simp [go_sem, Tm.count.counts] <;> omega) (by simp [go_sem]) (W_list (t.args) (fun done rest => [(.slot 9, .one (.v (dint done.length))), (.slot 8, .one (.v (dint t.args.length))), (.slot 7, .one (.v (.sl (t.args.map Tm.cells)))), (.slot 3, .one (.v (dint (1 + Tm.count.counts done : Nat))))]) ?_ ?_)
  · intro done x rest hL hg hnext
    have hlt : done.length < t.args.length := by rw [hL]; simp
    have hcx : Tm.count.counts t.args = Tm.count.counts done + (x.count + Tm.count.counts rest) := by rw [hL, Tm.counts_append]; rfl
    refine t_rg0 ?_
    refine t_yes ?_
    refine t_rg @hg ?_
    refine t_a ?_
    first | refine W_reg [] fun K hK => ?_ | refine W_regd (by rw [hP]; exact mixed) [] fun K hK => ?_
    refine t_s0 ?_
    refine t_c trivial (ih x (List.mem_of_getElem? hg) (by omega)) ?_
    refine t_e ?_
    clear hK K
    refine t_rg0 ?_
    repeat (first | refine W_inBlock ?_ | refine W_skip ?_ | refine W_label ?_ | refine W_exit rfl ?_)
    refine W_sub [] (by simp [go_sem]) (by simp [go_sem, Tm.counts_append, Tm.count.counts] <;> omega) (by simp [go_sem]) hnext
  · refine t_rg0 ?_
    refine t_no ?_
    refine t_rg0 ?_
    refine t_r ?_
    simp [go_sem, hP, hgl, hn, Tm.count_eq] <;> (try omega)

theorem ref02_n_ok (k : Int) (l : List Tm) : Con1 Tryd.prog gl 34 [dint k, .sl (l.map Tm.cells)] [] (Tm.mk k 0 (Ty.mk 0 []) l).dv [] := by
  refine t_in Tryd.func34 ?_
  intro X hP hgl hf hfn hn hR hids hfit
  have hlen : l.length ≤ 2147483648 := by simpa using sl_len (hfit (.sl (l.map Tm.cells)) (by simp))
  refine t_rg0 ?_
  refine t_rg0 ?_
  refine t_rg0 ?_
  refine t_a ?_
  refine t_sub [(1005, 0)] trivial (W_list (l) (fun done rest => [(.slot 10, .one (.v (dint done.length))), (.slot 9, .one (.v (dint l.length))), (.slot 8, .one (.v (.sl (l.map Tm.cells)))), (.slot 5, .one (.own 1005 (done.map Tm.cells))), (.tok 1005, .tk 5 done.length), (.loc 4, .row ([.v (dint 0), .v (dint 0), .v (dint 0), .own 0 [], .own 0 []])), (.slot 4, .one (.loc 4 0)), (.slot 0, .one (.v (dint k)))]) ?_ ?_)
  · intro done x rest hL hg hnext
    have hlt : done.length < l.length := by rw [hL]; simp
    refine t_rg0 ?_
    refine t_yes ?_
    refine t_rg @hg ?_
    refine t_a ?_
    first | refine W_reg [] fun K hK => ?_ | refine W_regd (by rw [hP]; exact mixed) [] fun K hK => ?_
    refine t_s0 ?_
    refine t_c trivial (ref02_copy_ok x) ?_
    refine t_e ?_
    clear hK K
    refine t_rg0 ?_
    refine t_b ?_
    refine t_sub [(1005, 18)] trivial hnext
  · refine t_rg0 ?_
    refine t_no ?_
    refine t_rg0 ?_
    refine t_r ?_
    simp [go_sem, hP, hgl, hn] <;> (try omega)
    all_goals exact t_f

theorem ref02_same_ok (a b : Tm) : Con1 Tryd.prog gl 25 [a.dv, b.dv] [] (dbool (a.same b)) [] := by
  induction a using Tm.ind generalizing b with
  | h a ih =>
  refine t_in Tryd.func25 ?_
  intro X hP hgl hf hfn hn hR hids hfit
  have hla := Tm.fit_len (hfit a.dv (by simp))
  have hlb := Tm.fit_len (hfit b.dv (by simp))
  refine t_rg0 ?_
  by_cases hk : a.kind = b.kind
  · by_cases hi : a.index = b.index
    · refine t_a ?_
      first | refine W_reg [] fun K hK => ?_ | refine W_regd (by rw [hP]; exact mixed) [] fun K hK => ?_
      refine t_s (j2 @hk @hi) ?_
      refine t_c trivial (ref01_same_ok a.type b.type) ?_
      by_cases ht : a.type.same b.type = true
      · simp [go_sem, hP, hn, ht]
        refine t_e ?_
        clear hK K
        by_cases hl : a.args.length = b.args.length
        · refine t_a ?_
          refine W_cond rfl ?_ ?_
          · intro h; simp [hl] at h
          intro _
          refine t_rg0 ?_
          refine t_a ?_
          refine t_sub [] (j2 @hk (j2 @hi @hl)) (W_upto (a.args.length) (fun i => ∀ (j : Nat) (x y : Tm), j < i → a.args[j]? = some x → b.args[j]? = some y → x.same y = true) (fun i => [(.slot 38, .one (.v (dint i))), (.slot 37, .one (.v (dint a.args.length))), (.slot 3, .one (.loc 3 0)), (.loc 3, .row ([.v (dint b.kind), .v (dint b.index), .v (dint b.type.kind), .v (.sl (b.type.args.map Ty.cells)), .v (.sl (b.args.map Tm.cells))])), (.slot 2, .one (.loc 2 0)), (.loc 2, .row ([.v (dint a.kind), .v (dint a.index), .v (dint a.type.kind), .v (.sl (a.type.args.map Ty.cells)), .v (.sl (a.args.map Tm.cells))]))]) (by intro j x y h; omega) ?_ ?_)
          · intro i hlt hI hnext
            obtain ⟨x, hx⟩ : ∃ x, a.args[i]? = some x := ⟨_, List.getElem?_eq_getElem hlt⟩
            obtain ⟨y, hy⟩ : ∃ y, b.args[i]? = some y := ⟨_, List.getElem?_eq_getElem (by omega)⟩
            refine t_rg0 ?_
            refine t_yes ?_
            refine t_rg0 ?_
            refine t_a ?_
            first | refine W_reg [] fun K hK => ?_ | refine W_regd (by rw [hP]; exact mixed) [] fun K hK => ?_
            refine t_s (j2 @hx @hy) ?_
            refine t_c trivial (ih x (List.mem_of_getElem? hx) y) ?_
            refine t_e ?_
            clear hK K
            by_cases hs : x.same y = true
            · refine t_a ?_
              refine W_cond rfl ?_ ?_
              · intro h; simp [hs] at h
              intro _
              refine t_rg0 ?_
              refine t_b ?_
              refine t_sub [] trivial (hnext ?_)
              intro j x' y' hj hx' hy'
              by_cases hji : j = i
              · subst hji; rw [hx] at hx'; rw [hy] at hy'; cases hx'; cases hy'; exact hs
              · exact hI j x' y' (by omega) hx' hy'
            · refine t_a ?_
              refine W_cond rfl ?_ ?_
              rotate_left
              · intro h; simp [hs] at h
              intro _
              refine t_rg0 ?_
              refine t_r ?_
              simp [go_sem, hP, hgl, hn] <;> (try omega)
              refine Bool.eq_false_iff.2 ?_
              intro h
              rw [Tm.same_eq] at h
              simp only [Bool.and_eq_true, Tm.sames_iff] at h
              exact hs (h.2.2 i x y hx hy)
          · intro hI
            refine t_rg0 ?_
            refine t_no ?_
            refine t_rg0 ?_
            refine t_r ?_
            simp [go_sem, hP, hgl, hn] <;> (try omega)
            rw [Tm.same_eq]
            simp only [Bool.and_eq_true, Tm.sames_iff]
            exact ⟨⟨⟨by simp [hk], by simp [hi]⟩, ht⟩, hl, fun i x y hx hy => hI i x y (List.getElem?_eq_some_iff.1 hx).1 hx hy⟩
        · refine t_a ?_
          refine W_cond rfl ?_ ?_
          rotate_left
          · intro h; simp at h; omega
          intro _
          refine t_rg0 ?_
          refine t_r ?_
          simp [go_sem, hP, hgl, hn] <;> (try omega)
          refine Bool.eq_false_iff.2 ?_
          intro h
          rw [Tm.same_eq] at h
          simp only [Bool.and_eq_true, Tm.sames_iff] at h
          exact hl h.2.1
      · simp [go_sem, hP, hn, ht]
        refine t_e ?_
        clear hK K
        refine t_a ?_
        refine W_cond rfl ?_ ?_
        rotate_left
        · intro h; simp at h
        intro _
        refine t_rg0 ?_
        refine t_r ?_
        simp [go_sem, hP, hgl, hn] <;> (try omega)
        simp [Tm.same_eq, ht]
    · refine t_rg (j2 @hk @hi) ?_
      refine t_a ?_
      refine W_cond rfl ?_ ?_
      rotate_left
      · intro h; simp at h
      intro _
      refine t_rg0 ?_
      refine t_r ?_
      simp [go_sem, hP, hgl, hn] <;> (try omega)
      simp [Tm.same_eq, hi]
  · refine t_rg @hk ?_
    refine t_a ?_
    refine W_cond rfl ?_ ?_
    rotate_left
    · intro h; simp at h
    intro _
    refine t_rg0 ?_
    refine t_r ?_
    simp [go_sem, hP, hgl, hn] <;> (try omega)
    simp [Tm.same_eq, hk]
end Go.Proofs.YtmdjiajbnifjpaaDoor.Lift

namespace Go.Proofs.YtmdjiajbnifjpaaDoor.Lift
set_option linter.unusedSimpArgs false
set_option linter.unusedVariables false
set_option linter.unnecessarySimpa false
open Go
variable {gl : Globs}

abbrev ptr (b : Nat) : DV := .prim (.pointer (some ⟨b, 0, none⟩))
/-- a deck of numbers, as an object's cells -/
abbrev deck (l : List Int) (p : Nat) : List DV := [.sl (ints l), dint p]

def modz (n k : Int) : Int := (n.tmod k + k).tmod k
theorem modz_bd (n k : Int) (h : 1 ≤ k) : 0 ≤ modz n k ∧ modz n k < k ∧ -k < n.tmod k ∧ n.tmod k < k := by
  have h1 : -k < n.tmod k := by
    have := Int.lt_tmod_of_pos n (show 0 < k by omega); omega
  have h2 : n.tmod k < k := Int.tmod_lt_of_pos n (by omega)
  refine ⟨?_, Int.tmod_lt_of_pos _ (by omega), h1, h2⟩
  exact Int.tmod_nonneg _ (by omega)

theorem mod_ok (n k : Int) (h1 : 1 ≤ k) (h2 : k ≤ 2147483648) : Con1 Tryd.prog gl 60 [dint n, dint k] [] (dint (modz n k)) [] := by
  refine t_in Tryd.func60 ?_
  intro X hP hgl hf hfn hn hR hids hfit
  have hb := modz_bd n k h1
  unfold modz at hb
  refine t_rg0 ?_
  refine t_a ?_
  first | refine W_reg [] fun K hK => ?_ | refine W_regd (by rw [hP]; exact mixed) [] fun K hK => ?_
  refine t_s0 ?_
  have hk0 : ¬ k = 0 := by omega
  refine ⟨⟨hk0, by omega⟩, ?_⟩
  refine ⟨by omega, ⟨hk0, by omega⟩, ?_⟩
  refine t_e ?_
  clear hK K
  refine t_r ?_
  simp [go_sem, hP, hgl, hn, modz] <;> (try omega)

theorem few_ok (l : List Int) : Con1 Tryd.prog gl 9 [.sl (ints l)] [] (dbool (decide (l.length ≤ 500))) [] := by
  refine t_in Tryd.func9 ?_
  intro X hP hgl hf hfn hn hR hids hfit
  refine t_rg0 ?_
  refine t_rg0 ?_
  refine t_r ?_
  simp [go_sem, hP, hgl, hn] <;> (try omega)

theorem new_ok (l : List Int) : Con Tryd.prog gl 13 [.sl (ints l)] [] fun r φ => ∃ b, r = ptr b ∧ φ = [(b, deck l 0)] := by
  refine t_in Tryd.func13 ?_
  intro X hP hgl hf hfn hn hR hids hfit
  refine t_rg0 ?_
  refine t_rg0 ?_
  refine W_expose 5 (by simp [go_sem]; rfl) ?_
  intro b hb
  simp [go_sem]
  refine W_retR hP hf hfn (ptr b) [(b, deck l 0)] (by simp [go_sem, hP, hgl, hn]) (by simp [go_sem]) (by simp) (by rw [hR.1]; exact ⟨b, rfl, rfl⟩) hR.2

/-- the next number below n -/
def nextD (l : List Int) (p : Nat) (n : Int) : Int × Nat :=
  if n < 1 then (0, p) else match l[p]? with
    | some x => (modz x n, p + 1)
    | none => (0, p)

theorem next_ok (b : Nat) (l : List Int) (p : Nat) (n : Int) (hn2 : n ≤ 2147483648) (hp : p ≤ 2147483648) :
    Con1 Tryd.prog gl 28 [ptr b, dint n] [(b, deck l p)] (dint (nextD l p n).1) [(b, deck l (nextD l p n).2)] := by
  refine t_in Tryd.func28 ?_
  intro X hP hgl hf hfn hn hR hids hfit
  refine t_rg0 ?_
  by_cases hlt : n < 1
  · refine t_rg @hlt ?_
    refine t_a ?_
    refine W_cond rfl ?_ ?_
    rotate_left
    · intro h; simp at h
    intro _
    refine t_rg0 ?_
    repeat (first | refine W_seq ?_ | refine W_skip ?_ | refine W_block ?_ | refine W_inBlock ?_ | refine W_label ?_ | refine W_exit rfl ?_)
    first | refine W_retR hP hf hfn _ ([(b, deck l p)]) (by first | (simp [go_sem, hP, hgl, hn, nextD, hlt]; done) | (simp [go_sem, hP, hgl, hn, nextD, hlt]; rfl)) (by simp [go_sem, hP, hgl, hn, nextD, hlt]) (by simp) ?_ hR.2 | refine W_endR hP hf hfn _ ([(b, deck l p)]) (by first | (simp [go_sem, hP, hgl, hn, nextD, hlt]; done) | (simp [go_sem, hP, hgl, hn, nextD, hlt]; rfl)) (by simp [go_sem, hP, hgl, hn, nextD, hlt]) (by simp) ?_ hR.2
    rw [hR.1]
    refine ⟨?_, by simp [nextD, hlt]⟩
    try simp [nextD, hlt]
    try all_goals (simp [Ty.dv, Ty.cells_eq, Ty.kind_mk, Ty.args_mk, Tm.dv, Tm.cells_eq, Tm.kind_mk, Tm.index_mk, Tm.type_mk, Tm.args_mk, Val.dv, Val.cells_eq, Val.kind_mk, Val.num_mk, Val.list_mk, Val.args_mk, ints])
  · by_cases hle : l.length ≤ p
    · refine t_rg (j2 @hlt @hle) ?_
      refine t_a ?_
      refine W_cond rfl ?_ ?_
      rotate_left
      · intro h; simp [hle] at h
      intro _
      refine t_rg0 ?_
      have hg : l[p]? = none := List.getElem?_eq_none hle
      repeat (first | refine W_seq ?_ | refine W_skip ?_ | refine W_block ?_ | refine W_inBlock ?_ | refine W_label ?_ | refine W_exit rfl ?_)
      first | refine W_retR hP hf hfn _ ([(b, deck l p)]) (by first | (simp [go_sem, hP, hgl, hn, nextD, hlt, hg]; done) | (simp [go_sem, hP, hgl, hn, nextD, hlt, hg]; rfl)) (by simp [go_sem, hP, hgl, hn, nextD, hlt, hg]) (by simp) ?_ hR.2 | refine W_endR hP hf hfn _ ([(b, deck l p)]) (by first | (simp [go_sem, hP, hgl, hn, nextD, hlt, hg]; done) | (simp [go_sem, hP, hgl, hn, nextD, hlt, hg]; rfl)) (by simp [go_sem, hP, hgl, hn, nextD, hlt, hg]) (by simp) ?_ hR.2
      rw [hR.1]
      refine ⟨?_, by simp [nextD, hlt, hg]⟩
      try simp [nextD, hlt, hg]
      try all_goals (simp [Ty.dv, Ty.cells_eq, Ty.kind_mk, Ty.args_mk, Tm.dv, Tm.cells_eq, Tm.kind_mk, Tm.index_mk, Tm.type_mk, Tm.args_mk, Val.dv, Val.cells_eq, Val.kind_mk, Val.num_mk, Val.list_mk, Val.args_mk, ints])
    · refine t_rg (j2 @hlt @hle) ?_
      refine t_a ?_
      refine W_cond rfl ?_ ?_
      · intro h; simp [hle] at h
      intro _
      obtain ⟨x, hx⟩ : ∃ x, l[p]? = some x := ⟨_, List.getElem?_eq_getElem (by omega)⟩
      have hg := ints_get hx
      refine t_rg @hg ?_
      refine t_rg0 ?_
      refine t_a ?_
      first | refine W_reg [] fun K hK => ?_ | refine W_regd (by rw [hP]; exact mixed) [] fun K hK => ?_
      refine t_s0 ?_
      refine t_c trivial (mod_ok x n (by omega) hn2) ?_
      refine t_e ?_
      clear hK K
      repeat (first | refine W_seq ?_ | refine W_skip ?_ | refine W_block ?_ | refine W_inBlock ?_ | refine W_label ?_ | refine W_exit rfl ?_)
      first | refine W_retR hP hf hfn _ ([(b, deck l (p + 1))]) (by first | (simp [go_sem, hP, hgl, hn, nextD, hlt, hx]; done) | (simp [go_sem, hP, hgl, hn, nextD, hlt, hx]; rfl)) (by simp [go_sem, hP, hgl, hn, nextD, hlt, hx]) (by simp) ?_ hR.2 | refine W_endR hP hf hfn _ ([(b, deck l (p + 1))]) (by first | (simp [go_sem, hP, hgl, hn, nextD, hlt, hx]; done) | (simp [go_sem, hP, hgl, hn, nextD, hlt, hx]; rfl)) (by simp [go_sem, hP, hgl, hn, nextD, hlt, hx]) (by simp) ?_ hR.2
      rw [hR.1]
      refine ⟨?_, by simp [nextD, hlt, hx]⟩
      try simp [nextD, hlt, hx]
      try all_goals (simp [Ty.dv, Ty.cells_eq, Ty.kind_mk, Ty.args_mk, Tm.dv, Tm.cells_eq, Tm.kind_mk, Tm.index_mk, Tm.type_mk, Tm.args_mk, Val.dv, Val.cells_eq, Val.kind_mk, Val.num_mk, Val.list_mk, Val.args_mk, ints])
end Go.Proofs.YtmdjiajbnifjpaaDoor.Lift

namespace Go.Proofs.YtmdjiajbnifjpaaDoor.Lift
set_option linter.unusedSimpArgs false
set_option linter.unusedVariables false
set_option linter.unnecessarySimpa false
open Go
variable {gl : Globs}

theorem nextD_le {l : List Int} {p : Nat} {n : Int} (h : p ≤ l.length) : (nextD l p n).2 ≤ l.length := by
  unfold nextD
  split
  · exact h
  · split
    · rename_i x hx
      have := (List.getElem?_eq_some_iff.1 hx).1
      simp only; omega
    · exact h

theorem nextD_bd {l : List Int} {p : Nat} {n : Int} (h : 1 ≤ n) : 0 ≤ (nextD l p n).1 ∧ (nextD l p n).1 < n := by
  unfold nextD
  rw [if_neg (by omega)]
  split
  · rename_i x hx
    have := modz_bd x n h
    exact ⟨this.1, this.2.1⟩
  · exact ⟨by simp, by simp; omega⟩

def plainD (l : List Int) (p : Nat) : Ty × Nat :=
  let k := (nextD l p 6).1
  (if k = 0 ∨ k = 1 then Ty.mk 1 [] else if k = 2 then Ty.mk 2 [] else if k = 3 then Ty.mk 5 [] else if k = 4 then Ty.mk 3 [Ty.mk 1 [], Ty.mk 2 []] else Ty.mk 3 [Ty.mk 1 [], Ty.mk 1 []], (nextD l p 6).2)

theorem plain_ok (b : Nat) (l : List Int) (p : Nat) (hl : l.length ≤ 500) (hp : p ≤ l.length) :
    Con1 Tryd.prog gl 71 [ptr b] [(b, deck l p)] (plainD l p).1.dv [(b, deck l (plainD l p).2)] := by
  refine t_in Tryd.func71 ?_
  intro X hP hgl hf hfn hn hR hids hfit
  have hp1 := nextD_le (n := 6) hp
  refine t_rg0 ?_
  refine t_a ?_
  first | refine W_reg [] fun K hK => ?_ | refine W_regd (by rw [hP]; exact mixed) [] fun K hK => ?_
  refine t_s0 ?_
  refine t_c trivial (next_ok b l p 6 (by decide) (by omega)) ?_
  refine t_e ?_
  clear hK K
  have hkb := nextD_bd (l := l) (p := p) (n := 6) (by decide)
  generalize hd : nextD l p 6 = d at *
  obtain ⟨k, q⟩ := d
  by_cases h0 : k = 0
  · refine t_rg @h0 ?_
    refine t_a ?_
    refine W_cond rfl ?_ ?_
    rotate_left
    · intro h; simp at h
    intro _
    refine t_a ?_
    refine W_cond rfl ?_ ?_
    rotate_left
    · intro h; simp at h
    intro _
    refine t_a ?_
    first | refine W_reg [] fun K hK => ?_ | refine W_regd (by rw [hP]; exact mixed) [] fun K hK => ?_
    refine t_s0 ?_
    refine t_c trivial (ref01_nat_ok) ?_
    refine t_e ?_
    clear hK K
    repeat (first | refine W_seq ?_ | refine W_skip ?_ | refine W_block ?_ | refine W_inBlock ?_ | refine W_label ?_ | refine W_exit rfl ?_)
    first | refine W_retR hP hf hfn _ ([(b, deck l q)]) (by first | (simp [go_sem, hP, hgl, hn, plainD, hd, h0]; done) | (simp [go_sem, hP, hgl, hn, plainD, hd, h0]; rfl)) (by simp [go_sem, hP, hgl, hn, plainD, hd, h0]) (by simp) ?_ hR.2 | refine W_endR hP hf hfn _ ([(b, deck l q)]) (by first | (simp [go_sem, hP, hgl, hn, plainD, hd, h0]; done) | (simp [go_sem, hP, hgl, hn, plainD, hd, h0]; rfl)) (by simp [go_sem, hP, hgl, hn, plainD, hd, h0]) (by simp) ?_ hR.2
    rw [hR.1]
    refine ⟨?_, by simp [plainD, hd, h0]⟩
    try simp [plainD, hd, h0]
    try all_goals (simp [Ty.dv, Ty.cells_eq, Ty.kind_mk, Ty.args_mk, Tm.dv, Tm.cells_eq, Tm.kind_mk, Tm.index_mk, Tm.type_mk, Tm.args_mk, Val.dv, Val.cells_eq, Val.kind_mk, Val.num_mk, Val.list_mk, Val.args_mk, ints])
  by_cases h1 : k = 1
  · refine t_rg @h1 ?_
    refine t_a ?_
    refine W_cond rfl ?_ ?_
    · intro h; simp at h
    intro _
    refine t_rg @h1 ?_
    refine t_a ?_
    refine W_cond rfl ?_ ?_
    rotate_left
    · intro h; simp at h
    intro _
    refine t_a ?_
    first | refine W_reg [] fun K hK => ?_ | refine W_regd (by rw [hP]; exact mixed) [] fun K hK => ?_
    refine t_s0 ?_
    refine t_c trivial (ref01_nat_ok) ?_
    refine t_e ?_
    clear hK K
    repeat (first | refine W_seq ?_ | refine W_skip ?_ | refine W_block ?_ | refine W_inBlock ?_ | refine W_label ?_ | refine W_exit rfl ?_)
    first | refine W_retR hP hf hfn _ ([(b, deck l q)]) (by first | (simp [go_sem, hP, hgl, hn, plainD, hd, h1]; done) | (simp [go_sem, hP, hgl, hn, plainD, hd, h1]; rfl)) (by simp [go_sem, hP, hgl, hn, plainD, hd, h1]) (by simp) ?_ hR.2 | refine W_endR hP hf hfn _ ([(b, deck l q)]) (by first | (simp [go_sem, hP, hgl, hn, plainD, hd, h1]; done) | (simp [go_sem, hP, hgl, hn, plainD, hd, h1]; rfl)) (by simp [go_sem, hP, hgl, hn, plainD, hd, h1]) (by simp) ?_ hR.2
    rw [hR.1]
    refine ⟨?_, by simp [plainD, hd, h1]⟩
    try simp [plainD, hd, h1]
    try all_goals (simp [Ty.dv, Ty.cells_eq, Ty.kind_mk, Ty.args_mk, Tm.dv, Tm.cells_eq, Tm.kind_mk, Tm.index_mk, Tm.type_mk, Tm.args_mk, Val.dv, Val.cells_eq, Val.kind_mk, Val.num_mk, Val.list_mk, Val.args_mk, ints])
  by_cases h2 : k = 2
  · refine t_rg @h2 ?_
    refine t_a ?_
    refine W_cond rfl ?_ ?_
    · intro h; simp at h
    intro _
    refine t_rg @h2 ?_
    refine t_a ?_
    refine W_cond rfl ?_ ?_
    · intro h; simp at h
    intro _
    refine t_rg @h2 ?_
    refine t_a ?_
    refine W_cond rfl ?_ ?_
    rotate_left
    · intro h; simp at h
    intro _
    refine t_a ?_
    first | refine W_reg [] fun K hK => ?_ | refine W_regd (by rw [hP]; exact mixed) [] fun K hK => ?_
    refine t_s0 ?_
    refine t_c trivial (ref01_list_ok) ?_
    refine t_e ?_
    clear hK K
    repeat (first | refine W_seq ?_ | refine W_skip ?_ | refine W_block ?_ | refine W_inBlock ?_ | refine W_label ?_ | refine W_exit rfl ?_)
    first | refine W_retR hP hf hfn _ ([(b, deck l q)]) (by first | (simp [go_sem, hP, hgl, hn, plainD, hd, h2]; done) | (simp [go_sem, hP, hgl, hn, plainD, hd, h2]; rfl)) (by simp [go_sem, hP, hgl, hn, plainD, hd, h2]) (by simp) ?_ hR.2 | refine W_endR hP hf hfn _ ([(b, deck l q)]) (by first | (simp [go_sem, hP, hgl, hn, plainD, hd, h2]; done) | (simp [go_sem, hP, hgl, hn, plainD, hd, h2]; rfl)) (by simp [go_sem, hP, hgl, hn, plainD, hd, h2]) (by simp) ?_ hR.2
    rw [hR.1]
    refine ⟨?_, by simp [plainD, hd, h2]⟩
    try simp [plainD, hd, h2]
    try all_goals (simp [Ty.dv, Ty.cells_eq, Ty.kind_mk, Ty.args_mk, Tm.dv, Tm.cells_eq, Tm.kind_mk, Tm.index_mk, Tm.type_mk, Tm.args_mk, Val.dv, Val.cells_eq, Val.kind_mk, Val.num_mk, Val.list_mk, Val.args_mk, ints])
  by_cases h3 : k = 3
  · refine t_rg @h3 ?_
    refine t_a ?_
    refine W_cond rfl ?_ ?_
    · intro h; simp at h
    intro _
    refine t_rg @h3 ?_
    refine t_a ?_
    refine W_cond rfl ?_ ?_
    · intro h; simp at h
    intro _
    refine t_rg @h3 ?_
    refine t_a ?_
    refine W_cond rfl ?_ ?_
    · intro h; simp at h
    intro _
    refine t_rg @h3 ?_
    refine t_a ?_
    refine W_cond rfl ?_ ?_
    rotate_left
    · intro h; simp at h
    intro _
    refine t_a ?_
    first | refine W_reg [] fun K hK => ?_ | refine W_regd (by rw [hP]; exact mixed) [] fun K hK => ?_
    refine t_s0 ?_
    refine t_c trivial (ref01_unit_ok) ?_
    refine t_e ?_
    clear hK K
    repeat (first | refine W_seq ?_ | refine W_skip ?_ | refine W_block ?_ | refine W_inBlock ?_ | refine W_label ?_ | refine W_exit rfl ?_)
    first | refine W_retR hP hf hfn _ ([(b, deck l q)]) (by first | (simp [go_sem, hP, hgl, hn, plainD, hd, h3]; done) | (simp [go_sem, hP, hgl, hn, plainD, hd, h3]; rfl)) (by simp [go_sem, hP, hgl, hn, plainD, hd, h3]) (by simp) ?_ hR.2 | refine W_endR hP hf hfn _ ([(b, deck l q)]) (by first | (simp [go_sem, hP, hgl, hn, plainD, hd, h3]; done) | (simp [go_sem, hP, hgl, hn, plainD, hd, h3]; rfl)) (by simp [go_sem, hP, hgl, hn, plainD, hd, h3]) (by simp) ?_ hR.2
    rw [hR.1]
    refine ⟨?_, by simp [plainD, hd, h3]⟩
    try simp [plainD, hd, h3]
    try all_goals (simp [Ty.dv, Ty.cells_eq, Ty.kind_mk, Ty.args_mk, Tm.dv, Tm.cells_eq, Tm.kind_mk, Tm.index_mk, Tm.type_mk, Tm.args_mk, Val.dv, Val.cells_eq, Val.kind_mk, Val.num_mk, Val.list_mk, Val.args_mk, ints])
  by_cases h4 : k = 4
  · refine t_rg @h4 ?_
    refine t_a ?_
    refine W_cond rfl ?_ ?_
    · intro h; simp at h
    intro _
    refine t_rg @h4 ?_
    refine t_a ?_
    refine W_cond rfl ?_ ?_
    · intro h; simp at h
    intro _
    refine t_rg @h4 ?_
    refine t_a ?_
    refine W_cond rfl ?_ ?_
    · intro h; simp at h
    intro _
    refine t_rg @h4 ?_
    refine t_a ?_
    refine W_cond rfl ?_ ?_
    · intro h; simp at h
    intro _
    refine t_rg @h4 ?_
    refine t_a ?_
    refine W_cond rfl ?_ ?_
    rotate_left
    · intro h; simp at h
    intro _
    refine t_a ?_
    first | refine W_reg [] fun K hK => ?_ | refine W_regd (by rw [hP]; exact mixed) [] fun K hK => ?_
    refine t_s0 ?_
    refine t_c trivial (ref01_nat_ok) ?_
    refine t_c trivial (ref01_list_ok) ?_
    refine t_c trivial (ref01_two_ok (Ty.mk 1 []) (Ty.mk 2 [])) ?_
    refine t_e ?_
    clear hK K
    repeat (first | refine W_seq ?_ | refine W_skip ?_ | refine W_block ?_ | refine W_inBlock ?_ | refine W_label ?_ | refine W_exit rfl ?_)
    first | refine W_retR hP hf hfn _ ([(b, deck l q)]) (by first | (simp [go_sem, hP, hgl, hn, plainD, hd, h4]; done) | (simp [go_sem, hP, hgl, hn, plainD, hd, h4]; rfl)) (by simp [go_sem, hP, hgl, hn, plainD, hd, h4]) (by simp) ?_ hR.2 | refine W_endR hP hf hfn _ ([(b, deck l q)]) (by first | (simp [go_sem, hP, hgl, hn, plainD, hd, h4]; done) | (simp [go_sem, hP, hgl, hn, plainD, hd, h4]; rfl)) (by simp [go_sem, hP, hgl, hn, plainD, hd, h4]) (by simp) ?_ hR.2
    rw [hR.1]
    refine ⟨?_, by simp [plainD, hd, h4]⟩
    try simp [plainD, hd, h4]
    try all_goals (simp [Ty.dv, Ty.cells_eq, Ty.kind_mk, Ty.args_mk, Tm.dv, Tm.cells_eq, Tm.kind_mk, Tm.index_mk, Tm.type_mk, Tm.args_mk, Val.dv, Val.cells_eq, Val.kind_mk, Val.num_mk, Val.list_mk, Val.args_mk, ints])
  · have h5 : k = 5 := by simp at hkb; omega
    refine t_rg @h5 ?_
    refine t_a ?_
    refine W_cond rfl ?_ ?_
    · intro h; simp at h
    intro _
    refine t_rg @h5 ?_
    refine t_a ?_
    refine W_cond rfl ?_ ?_
    · intro h; simp at h
    intro _
    refine t_rg @h5 ?_
    refine t_a ?_
    refine W_cond rfl ?_ ?_
    · intro h; simp at h
    intro _
    refine t_rg @h5 ?_
    refine t_a ?_
    refine W_cond rfl ?_ ?_
    · intro h; simp at h
    intro _
    refine t_rg @h5 ?_
    refine t_a ?_
    refine W_cond rfl ?_ ?_
    · intro h; simp at h
    intro _
    refine t_a ?_
    first | refine W_reg [] fun K hK => ?_ | refine W_regd (by rw [hP]; exact mixed) [] fun K hK => ?_
    refine t_s0 ?_
    refine t_c trivial (ref01_nat_ok) ?_
    refine t_c trivial (ref01_nat_ok) ?_
    refine t_c trivial (ref01_two_ok (Ty.mk 1 []) (Ty.mk 1 [])) ?_
    refine t_e ?_
    clear hK K
    repeat (first | refine W_seq ?_ | refine W_skip ?_ | refine W_block ?_ | refine W_inBlock ?_ | refine W_label ?_ | refine W_exit rfl ?_)
    first | refine W_retR hP hf hfn _ ([(b, deck l q)]) (by first | (simp [go_sem, hP, hgl, hn, plainD, hd, h5]; done) | (simp [go_sem, hP, hgl, hn, plainD, hd, h5]; rfl)) (by simp [go_sem, hP, hgl, hn, plainD, hd, h5]) (by simp) ?_ hR.2 | refine W_endR hP hf hfn _ ([(b, deck l q)]) (by first | (simp [go_sem, hP, hgl, hn, plainD, hd, h5]; done) | (simp [go_sem, hP, hgl, hn, plainD, hd, h5]; rfl)) (by simp [go_sem, hP, hgl, hn, plainD, hd, h5]) (by simp) ?_ hR.2
    rw [hR.1]
    refine ⟨?_, by simp [plainD, hd, h5]⟩
    try simp [plainD, hd, h5]
    try all_goals (simp [Ty.dv, Ty.cells_eq, Ty.kind_mk, Ty.args_mk, Tm.dv, Tm.cells_eq, Tm.kind_mk, Tm.index_mk, Tm.type_mk, Tm.args_mk, Val.dv, Val.cells_eq, Val.kind_mk, Val.num_mk, Val.list_mk, Val.args_mk, ints])

/-- the types of plain values: a pair has two parts -/
def Ty.plain : Ty → Prop
  | .mk k ts => (k = 3 → ts.length = 2) ∧ plains ts
where
  plains : List Ty → Prop
    | [] => True
    | t :: r => t.plain ∧ plains r

end Go.Proofs.YtmdjiajbnifjpaaDoor.Lift

namespace Go.Proofs.YtmdjiajbnifjpaaDoor.Lift
set_option linter.unusedSimpArgs false
set_option linter.unusedVariables false
set_option linter.unnecessarySimpa false
open Go
variable {gl : Globs}

def numTm : Nat → Tm
  | 0 => Tm.mk 4 0 (Ty.mk 0 []) []
  | n + 1 => Tm.mk 5 0 (Ty.mk 0 []) [numTm n]

def sizeI (n : Int) : Int := min n 4096 + 1
/-- the number of nodes of a value, and whether all have a form -/
def Val.okB (v : Val) : Bool :=
  if v.kind = 1 then decide (0 ≤ v.num) && decide (v.list.length = 0) && decide (v.args.length = 0)
  else if v.kind = 2 then decide (v.num = 0) && !v.list.any (fun n => decide (n < 0)) && decide (v.args.length = 0)
  else if v.kind = 3 then decide (v.num = 0) && decide (v.list.length = 0) && decide (v.args.length = 2)
  else if v.kind = 4 then decide (v.num = 0) && decide (v.list.length = 0) && decide (v.args.length = 0)
  else false

end Go.Proofs.YtmdjiajbnifjpaaDoor.Lift

namespace Go.Proofs.YtmdjiajbnifjpaaDoor.Lift
set_option linter.unusedSimpArgs false
set_option linter.unusedVariables false
set_option linter.unnecessarySimpa false
open Go
variable {gl : Globs}

def Val.nodesN : Val → Int × Bool
  | .mk k n l a => nodesL a (1, Val.okB (.mk k n l a))
where
  nodesL : List Val → Int × Bool → Int × Bool
    | [], p => p
    | a :: r, p => if p.2 then nodesL r (p.1 + (Val.nodesN a).1, (Val.nodesN a).2) else p
/-- the number of nodes of a value -/
def Val.count : Val → Nat
  | .mk _ _ _ a => 1 + counts a
where
  counts : List Val → Nat
    | [] => 0
    | a :: r => a.count + counts r
theorem Val.count_eq (t : Val) : t.count = 1 + Val.count.counts t.args := by cases t; simp [count, args]
theorem Val.counts_append (l m : List Val) : Val.count.counts (l ++ m) = Val.count.counts l + Val.count.counts m := by
  induction l with
  | nil => simp [Val.count.counts]
  | cons a r ih => simp [Val.count.counts, ih]; omega

end Go.Proofs.YtmdjiajbnifjpaaDoor.Lift

/-
  Plain facts: forms and sizes of types and terms.
-/
namespace Go.Proofs.YtmdjiajbnifjpaaDoor.Lift
set_option linter.unusedSimpArgs false
set_option linter.unusedVariables false
set_option linter.unnecessarySimpa false
open Go

def tyKind (k : Int) (n : Nat) : Bool := (decide (k = 1 ∨ k = 2 ∨ k = 5) && n == 0) || (decide (k = 3 ∨ k = 4) && n == 2)

namespace Ty
set_option linter.unusedSimpArgs false
set_option linter.unusedVariables false
set_option linter.unnecessarySimpa false
def shape : Ty → Bool
  | .mk k a => tyKind k a.length && shapes a
where
  shapes : List Ty → Bool
    | [] => true
    | a :: r => a.shape && shapes r
theorem shape_eq (t : Ty) : t.shape = (tyKind t.kind t.args.length && shape.shapes t.args) := by cases t; rfl
theorem shapes_append (l m : List Ty) : shape.shapes (l ++ m) = (shape.shapes l && shape.shapes m) := by
  induction l with
  | nil => simp [shape.shapes]
  | cons a r ih => simp [shape.shapes, ih, Bool.and_assoc]
theorem shapes_iff (l : List Ty) : shape.shapes l = true ↔ ∀ a ∈ l, a.shape = true := by
  induction l with
  | nil => simp [shape.shapes]
  | cons a r ih => simp [shape.shapes, ih]
def count : Ty → Nat
  | .mk _ a => 1 + counts a
where
  counts : List Ty → Nat
    | [] => 0
    | a :: r => a.count + counts r
theorem count_eq (t : Ty) : t.count = 1 + count.counts t.args := by cases t; rfl
theorem counts_append (l m : List Ty) : count.counts (l ++ m) = count.counts l + count.counts m := by
  induction l with
  | nil => simp [count.counts]
  | cons a r ih => simp [count.counts, ih]; omega
theorem count_mem {l : List Ty} {a : Ty} (h : a ∈ l) : a.count ≤ count.counts l := by
  induction l with
  | nil => cases h
  | cons b r ih =>
    simp only [count.counts]
    rcases List.mem_cons.1 h with rfl | h
    · omega
    · have := ih h; omega
/-- the first error of a type -/
def checkN (t : Ty) : Int := if t.shape = true then if 64 < t.count then 4 else 0 else 2
def zero (t : Ty) : Bool := decide (t.kind = 0) && decide (t.args.length = 0)
end Ty

/-- how many parts a kind of terms has -/
def arityI (k : Int) : Int :=
  if k = 1 ∨ k = 4 ∨ k = 7 ∨ k = 13 then 0 else if k = 2 ∨ k = 5 ∨ k = 11 ∨ k = 12 then 1 else if k = 3 ∨ k = 8 ∨ k = 10 then 2 else if k = 6 ∨ k = 9 then 3 else -1

def tyOfKind (k : Int) (t : Ty) : Bool := if k = 2 ∨ k = 6 ∨ k = 9 then decide (t.checkN = 0) else t.zero

def tmKind (k i : Int) (t : Ty) (n : Nat) : Bool := decide ((n : Int) = arityI k) && decide (0 ≤ i) && (decide (k = 1) || decide (i = 0)) && tyOfKind k t

namespace Tm
set_option linter.unusedSimpArgs false
set_option linter.unusedVariables false
set_option linter.unnecessarySimpa false
def shape : Tm → Bool
  | .mk k i t a => tmKind k i t a.length && shapes a
where
  shapes : List Tm → Bool
    | [] => true
    | a :: r => a.shape && shapes r
theorem shape_eq (t : Tm) : t.shape = (tmKind t.kind t.index t.type t.args.length && shape.shapes t.args) := by cases t; rfl
theorem shapes_append (l m : List Tm) : shape.shapes (l ++ m) = (shape.shapes l && shape.shapes m) := by
  induction l with
  | nil => simp [shape.shapes]
  | cons a r ih => simp [shape.shapes, ih, Bool.and_assoc]
theorem shapes_iff (l : List Tm) : shape.shapes l = true ↔ ∀ a ∈ l, a.shape = true := by
  induction l with
  | nil => simp [shape.shapes]
  | cons a r ih => simp [shape.shapes, ih]
theorem count_mem {l : List Tm} {a : Tm} (h : a ∈ l) : a.count ≤ count.counts l := by
  induction l with
  | nil => cases h
  | cons b r ih =>
    simp only [count.counts]
    rcases List.mem_cons.1 h with rfl | h
    · omega
    · have := ih h; omega
/-- all types of a term are small enough to be counted -/
def tys : Tm → Prop
  | .mk _ _ t a => t.count ≤ 1073741824 ∧ tyss a
where
  tyss : List Tm → Prop
    | [] => True
    | a :: r => a.tys ∧ tyss r
theorem tyss_iff (l : List Tm) : tys.tyss l ↔ ∀ a ∈ l, a.tys := by
  induction l with
  | nil => simp [tys.tyss]
  | cons a r ih => simp [tys.tyss, ih]
theorem tys_eq (t : Tm) : t.tys ↔ t.type.count ≤ 1073741824 ∧ ∀ a ∈ t.args, a.tys := by cases t; simp only [tys, tyss_iff, type, args]
/-- the first error of a term -/
def checkN (t : Tm) : Int := if t.shape = true then if 4096 < t.count then 4 else 0 else 2
end Tm
theorem Ty.fit_len {t : Ty} (h : t.dv.fit) : t.args.length ≤ 2147483648 := ((Ty.fit_eq t).1 ((Ty.dv_fit t).1 h)).2.1
end Go.Proofs.YtmdjiajbnifjpaaDoor.Lift

namespace Go.Proofs.YtmdjiajbnifjpaaDoor.Lift
set_option linter.unusedSimpArgs false
set_option linter.unusedVariables false
set_option linter.unnecessarySimpa false
open Go
variable {gl : Globs}

def wantI (k : Int) : Int := if k = 3 ∨ k = 4 then 2 else 0

theorem ref01_shape_ok (t : Ty) : Con1 Tryd.prog gl 85 [t.dv] [] (dbool t.shape) [] := by
  induction t using Ty.ind with
  | h t ih =>
  refine t_in Tryd.func85 ?_
  intro X hP hgl hf hfn hn hR hids hfit
  have hlen := Ty.fit_len (hfit t.dv (by simp))
  have hs := Ty.shape_eq t
  refine t_rg0 ?_
  refine t_rg0 ?_
  refine t_rg0 ?_
  repeat (first | refine W_seq ?_ | refine W_skip ?_ | refine W_inBlock ?_ | refine W_label ?_)
  refine W_cutP (t.kind = 1 ∨ t.kind = 2 ∨ t.kind = 5 ∨ t.kind = 3 ∨ t.kind = 4) [(.slot 3, .one (.v (dint (wantI t.kind)))), (.loc 1, .row ([.v (dint t.kind), .v (.sl (t.args.map Ty.cells))])), (.slot 1, .one (.loc 1 0))] ?_ ?_
  · intro hrest
    by_cases h1 : t.kind = 1
    · repeat (first | (refine W_sub [] (by simp [go_sem]) (by simp [go_sem, wantI, h1] <;> omega) (by simp [go_sem]) (hrest (by simp [h1]))) | refine W_seq ?_ | refine W_skip ?_ | refine W_block ?_ | refine W_inBlock ?_ | refine W_label ?_ | refine W_exit rfl ?_ | ((first | refine W_reg [] fun K hK => ?_ | refine W_regd (by rw [hP]; exact mixed) [] fun K hK => ?_); simp [go_sem, hP, hgl, hn, h1]; (repeat (refine ⟨by omega, ?_⟩)); (first | refine hK _ ?_ | refine ⟨by rfl, hK _ ?_⟩); clear hK K) | refine W_cond rfl (fun _ => ?_) (fun hq => False.elim (by first | (simp [h1]; done) | (simp [h1]; omega) | (simp [h1] at hq; done) | (simp [h1] at hq; omega))) | refine W_cond rfl (fun hq => False.elim (by first | (simp [h1]; done) | (simp [h1]; omega) | (simp [h1] at hq; done) | (simp [h1] at hq; omega))) (fun _ => ?_))
    by_cases h2 : t.kind = 2
    · repeat (first | (refine W_sub [] (by simp [go_sem]) (by simp [go_sem, wantI, h2] <;> omega) (by simp [go_sem]) (hrest (by simp [h2]))) | refine W_seq ?_ | refine W_skip ?_ | refine W_block ?_ | refine W_inBlock ?_ | refine W_label ?_ | refine W_exit rfl ?_ | ((first | refine W_reg [] fun K hK => ?_ | refine W_regd (by rw [hP]; exact mixed) [] fun K hK => ?_); simp [go_sem, hP, hgl, hn, h2]; (repeat (refine ⟨by omega, ?_⟩)); (first | refine hK _ ?_ | refine ⟨by rfl, hK _ ?_⟩); clear hK K) | refine W_cond rfl (fun _ => ?_) (fun hq => False.elim (by first | (simp [h2]; done) | (simp [h2]; omega) | (simp [h2] at hq; done) | (simp [h2] at hq; omega))) | refine W_cond rfl (fun hq => False.elim (by first | (simp [h2]; done) | (simp [h2]; omega) | (simp [h2] at hq; done) | (simp [h2] at hq; omega))) (fun _ => ?_))
    by_cases h3 : t.kind = 5
    · repeat (first | (refine W_sub [] (by simp [go_sem]) (by simp [go_sem, wantI, h3] <;> omega) (by simp [go_sem]) (hrest (by simp [h3]))) | refine W_seq ?_ | refine W_skip ?_ | refine W_block ?_ | refine W_inBlock ?_ | refine W_label ?_ | refine W_exit rfl ?_ | ((first | refine W_reg [] fun K hK => ?_ | refine W_regd (by rw [hP]; exact mixed) [] fun K hK => ?_); simp [go_sem, hP, hgl, hn, h3]; (repeat (refine ⟨by omega, ?_⟩)); (first | refine hK _ ?_ | refine ⟨by rfl, hK _ ?_⟩); clear hK K) | refine W_cond rfl (fun _ => ?_) (fun hq => False.elim (by first | (simp [h3]; done) | (simp [h3]; omega) | (simp [h3] at hq; done) | (simp [h3] at hq; omega))) | refine W_cond rfl (fun hq => False.elim (by first | (simp [h3]; done) | (simp [h3]; omega) | (simp [h3] at hq; done) | (simp [h3] at hq; omega))) (fun _ => ?_))
    by_cases h4 : t.kind = 3
    · repeat (first | (refine W_sub [] (by simp [go_sem]) (by simp [go_sem, wantI, h4] <;> omega) (by simp [go_sem]) (hrest (by simp [h4]))) | refine W_seq ?_ | refine W_skip ?_ | refine W_block ?_ | refine W_inBlock ?_ | refine W_label ?_ | refine W_exit rfl ?_ | ((first | refine W_reg [] fun K hK => ?_ | refine W_regd (by rw [hP]; exact mixed) [] fun K hK => ?_); simp [go_sem, hP, hgl, hn, h4]; (repeat (refine ⟨by omega, ?_⟩)); (first | refine hK _ ?_ | refine ⟨by rfl, hK _ ?_⟩); clear hK K) | refine W_cond rfl (fun _ => ?_) (fun hq => False.elim (by first | (simp [h4]; done) | (simp [h4]; omega) | (simp [h4] at hq; done) | (simp [h4] at hq; omega))) | refine W_cond rfl (fun hq => False.elim (by first | (simp [h4]; done) | (simp [h4]; omega) | (simp [h4] at hq; done) | (simp [h4] at hq; omega))) (fun _ => ?_))
    by_cases h5 : t.kind = 4
    · repeat (first | (refine W_sub [] (by simp [go_sem]) (by simp [go_sem, wantI, h5] <;> omega) (by simp [go_sem]) (hrest (by simp [h5]))) | refine W_seq ?_ | refine W_skip ?_ | refine W_block ?_ | refine W_inBlock ?_ | refine W_label ?_ | refine W_exit rfl ?_ | ((first | refine W_reg [] fun K hK => ?_ | refine W_regd (by rw [hP]; exact mixed) [] fun K hK => ?_); simp [go_sem, hP, hgl, hn, h5]; (repeat (refine ⟨by omega, ?_⟩)); (first | refine hK _ ?_ | refine ⟨by rfl, hK _ ?_⟩); clear hK K) | refine W_cond rfl (fun _ => ?_) (fun hq => False.elim (by first | (simp [h5]; done) | (simp [h5]; omega) | (simp [h5] at hq; done) | (simp [h5] at hq; omega))) | refine W_cond rfl (fun hq => False.elim (by first | (simp [h5]; done) | (simp [h5]; omega) | (simp [h5] at hq; done) | (simp [h5] at hq; omega))) (fun _ => ?_))
    refine t_g (j2 @h1 (j2 @h2 (j2 @h3 (j2 @h4 @h5)))) ?_
    refine t_r ?_
    simp [go_sem, hP, hgl, hn, hs, tyKind, h1, h2, h3, h4, h5] <;> (try omega)
  · intro hk
    by_cases hl : (t.args.length : Int) = wantI t.kind
    · have hty : tyKind t.kind t.args.length = true := by
        unfold wantI at hl
        unfold tyKind
        rcases hk with h | h | h | h | h <;> simp [h] at hl ⊢ <;> omega
      refine t_g @hl ?_
      refine t_a ?_
      refine W_sub [] (by simp [go_sem]) (by simp [go_sem, Ty.shape.shapes] <;> omega) (by simp [go_sem]) (W_listI (t.args) (fun done => Ty.shape.shapes done = true) (fun done rest => [(.slot 23, .one (.v (dint done.length))), (.slot 22, .one (.v (dint t.args.length))), (.slot 21, .one (.v (.sl (t.args.map Ty.cells))))]) (rfl) ?_ ?_)
      · intro done x rest hL hg hI hnext
        have hlt : done.length < t.args.length := by rw [hL]; simp
        refine t_rg0 ?_
        refine t_yes ?_
        refine t_rg @hg ?_
        refine t_c1 @hg (ih x (List.mem_of_getElem? hg)) ?_
        by_cases hx : x.shape = true
        · refine t_n @hx ?_
          refine t_gt (wr []) trivial @hx (hnext (by rw [Ty.shapes_append]; simp [hI, Ty.shape.shapes, hx]))
        · refine t_y @hx ?_
          refine t_g @hx ?_
          have : t.shape = false := by rw [hs, hL, Ty.shapes_append]; simp [Ty.shape.shapes, hx]
          refine t_r ?_
          simp [go_sem, hP, hgl, hn, this] <;> (try omega)
      · intro hI
        refine t_rg0 ?_
        refine t_no ?_
        refine t_g0 ?_
        refine t_r ?_
        simp [go_sem, hP, hgl, hn, hs, hty, hI] <;> (try omega)
    · have hty : tyKind t.kind t.args.length = false := by
        unfold wantI at hl
        unfold tyKind
        rcases hk with h | h | h | h | h <;> simp [h] at hl ⊢ <;> omega
      refine t_g @hl ?_
      refine t_r ?_
      simp [go_sem, hP, hgl, hn, hs, hty] <;> (try omega)

theorem ref01_size_ok (t : Ty) (hc : t.count ≤ 2147483648) : Con1 Tryd.prog gl 86 [t.dv] [] (dint t.count) [] := by
  induction t using Ty.ind with
  | h t ih =>
  refine t_in Tryd.func86 ?_
  intro X hP hgl hf hfn hn hR hids hfit
  have hlen := Ty.fit_len (hfit t.dv (by simp))
  rw [Ty.count_eq] at hc
  refine t_rg0 ?_
  refine t_rg0 ?_
  refine t_rg0 ?_
  refine t_a ?_
  refine W_sub [] (by simp [go_sem]) (by simp [go_sem, Ty.count.counts] <;> omega) (by simp [go_sem]) (W_list (t.args) (fun done rest => [(.slot 9, .one (.v (dint done.length))), (.slot 8, .one (.v (dint t.args.length))), (.slot 7, .one (.v (.sl (t.args.map Ty.cells)))), (.slot 3, .one (.v (dint (1 + Ty.count.counts done : Nat))))]) ?_ ?_)
  · intro done x rest hL hg hnext
    have hlt : done.length < t.args.length := by rw [hL]; simp
    have hcx : Ty.count.counts t.args = Ty.count.counts done + (x.count + Ty.count.counts rest) := by rw [hL, Ty.counts_append]; rfl
    rw [Ty.counts_append] at hnext
    refine t_rg0 ?_
    refine t_yes ?_
    refine t_rg @hg ?_
    refine t_a ?_
    first | refine W_reg [] fun K hK => ?_ | refine W_regd (by rw [hP]; exact mixed) [] fun K hK => ?_
    refine t_s0 ?_
    refine t_c trivial (ih x (List.mem_of_getElem? hg) (by omega)) ?_
    refine t_e ?_
    clear hK K
    refine t_rg0 ?_
    repeat (first | refine W_inBlock ?_ | refine W_skip ?_ | refine W_label ?_ | refine W_exit rfl ?_)
    refine W_sub [] (by simp [go_sem]) (by simp [go_sem, Ty.count.counts] <;> omega) (by simp [go_sem]) hnext
  · refine t_rg0 ?_
    refine t_no ?_
    refine t_rg0 ?_
    refine t_r ?_
    simp [go_sem, hP, hgl, hn, Ty.count_eq] <;> (try omega)

theorem ref01_zero_ok (t : Ty) : Con1 Tryd.prog gl 80 [t.dv] [] (dbool t.zero) [] := by
  refine t_in Tryd.func80 ?_
  intro X hP hgl hf hfn hn hR hids hfit
  refine t_rg0 ?_
  by_cases h : t.kind = 0
  · refine t_rg @h ?_
    refine t_r ?_
    simp [go_sem, hP, hgl, hn, Ty.zero, h] <;> (try omega)
  · refine t_rg @h ?_
    refine t_r ?_
    simp [go_sem, hP, hgl, hn, Ty.zero, h] <;> (try omega)

theorem ref01_check_ok (t : Ty) (hc : t.count ≤ 2147483648) : Con1 Tryd.prog gl 79 [t.dv] [] (dint t.checkN) [] := by
  refine t_in Tryd.func79 ?_
  intro X hP hgl hf hfn hn hR hids hfit
  refine t_rg0 ?_
  refine t_a ?_
  first | refine W_reg [] fun K hK => ?_ | refine W_regd (by rw [hP]; exact mixed) [] fun K hK => ?_
  refine t_s0 ?_
  refine t_c trivial (ref01_shape_ok t) ?_
  refine t_e ?_
  clear hK K
  by_cases h : t.shape = true
  · refine t_n @h ?_
    refine t_a ?_
    first | refine W_reg [] fun K hK => ?_ | refine W_regd (by rw [hP]; exact mixed) [] fun K hK => ?_
    refine t_s0 ?_
    refine t_c trivial (ref01_size_ok t hc) ?_
    refine t_e ?_
    clear hK K
    by_cases h2 : 64 < t.count
    · refine t_y @h2 ?_
      refine t_rg0 ?_
      refine t_r ?_
      simp [go_sem, hP, hgl, hn, Ty.checkN, h, h2] <;> (try omega)
    · refine t_n @h2 ?_
      refine t_rg0 ?_
      refine t_r ?_
      simp [go_sem, hP, hgl, hn, Ty.checkN, h, h2] <;> (try omega)
  · refine t_y @h ?_
    refine t_rg0 ?_
    refine t_r ?_
    simp [go_sem, hP, hgl, hn, Ty.checkN, h] <;> (try omega)
end Go.Proofs.YtmdjiajbnifjpaaDoor.Lift

/-
  The counts of raw types, terms and values, as far as they are counted.
-/
namespace Go.Proofs.YtmdjiajbnifjpaaDoor.Lift
set_option linter.unusedSimpArgs false
set_option linter.unusedVariables false
set_option linter.unnecessarySimpa false
open Go
variable {gl : Globs}

namespace Ty
set_option linter.unusedSimpArgs false
set_option linter.unusedVariables false
set_option linter.unnecessarySimpa false
/-- all nodes, with those of its types, and the elements of its lists -/
def tot : Ty → Nat
  | .mk _ a => 1 + tots a
where
  tots : List Ty → Nat
    | [] => 0
    | a :: r => a.tot + tots r
/-- what is counted of a tree, up to a number -/
def cntN : Ty → Int → Int
  | .mk _ a, m => cnts a (1) m
where
  cnts : List Ty → Int → Int → Int
    | [], n, _ => n
    | a :: r, n, m => if n ≤ m then cnts r (n + a.cntN (m - n)) m else n
theorem tot_eq (t : Ty) : t.tot = 1 + tot.tots t.args := by cases t; rfl
theorem tots_append (l r : List Ty) : tot.tots (l ++ r) = tot.tots l + tot.tots r := by
  induction l with
  | nil => simp [tot.tots]
  | cons a l ih => simp [tot.tots, ih]; omega
theorem tot_mem {l : List Ty} {a : Ty} (h : a ∈ l) : a.tot ≤ tot.tots l := by
  induction l with
  | nil => cases h
  | cons b r ih =>
    simp only [tot.tots]
    rcases List.mem_cons.1 h with rfl | h
    · omega
    · have := ih h; omega
theorem cntN_eq (t : Ty) (m : Int) : t.cntN m = cntN.cnts t.args (1) m := by cases t; rfl
theorem cnts_stop (r : List Ty) (n m : Int) (h : ¬ n ≤ m) : cntN.cnts r n m = n := by cases r <;> simp [cntN.cnts, h]
theorem cnts_append (l r : List Ty) (n m : Int) : cntN.cnts (l ++ r) n m = cntN.cnts r (cntN.cnts l n m) m := by
  induction l generalizing n with
  | nil => rfl
  | cons a l ih =>
    simp only [List.cons_append, cntN.cnts]
    split
    · exact ih _
    · rename_i h; rw [cnts_stop _ _ _ h]
theorem cnts_key {l : List Ty} (h : ∀ a ∈ l, ∀ m : Int, 1 ≤ a.cntN m ∧ a.cntN m ≤ a.tot ∧ (a.cntN m ≤ m → a.cntN m = a.tot)) (m : Int) : ∀ n : Int, n ≤ cntN.cnts l n m ∧ cntN.cnts l n m ≤ n + tot.tots l ∧ (cntN.cnts l n m ≤ m → cntN.cnts l n m = n + tot.tots l) := by
  induction l with
  | nil => intro n; simp [cntN.cnts, tot.tots]
  | cons a r ihr =>
    intro n
    obtain ⟨a1, a2, a3⟩ := h a (by simp) (m - n)
    obtain ⟨b1, b2, b3⟩ := ihr (fun b hb => h b (List.mem_cons_of_mem _ hb)) (n + a.cntN (m - n))
    simp only [cntN.cnts, tot.tots]
    split
    · refine ⟨by omega, by omega, fun hm => ?_⟩
      have := b3 hm
      have := a3 (by omega)
      omega
    · exact ⟨by omega, by omega, by omega⟩
theorem cnt_bd (t : Ty) : ∀ m : Int, 1 ≤ t.cntN m ∧ t.cntN m ≤ t.tot ∧ (t.cntN m ≤ m → t.cntN m = t.tot) := by
  induction t using Ty.ind with
  | h t ih =>
  intro m
  have h0 : 1 ≤ (1 : Int) ∧ (1 : Int) ≤ (1 : Nat) ∧ ((1 : Int) ≤ m → (1 : Int) = (1 : Nat)) := by
    exact ⟨by omega, by omega, by omega⟩
  obtain ⟨k1, k2, k3⟩ := cnts_key ih m (1)
  rw [cntN_eq, tot_eq]
  refine ⟨by omega, by omega, fun h => ?_⟩
  have := k3 h
  have := h0.2.2 (by omega)
  omega
theorem cnts_bd (l : List Ty) (n m : Int) : n ≤ cntN.cnts l n m ∧ cntN.cnts l n m ≤ n + tot.tots l := by
  obtain ⟨h1, h2, -⟩ := cnts_key (fun a _ => cnt_bd a) m n (l := l)
  exact ⟨h1, h2⟩
end Ty

theorem counttype_ok (t : Ty) (m : Int) (hm : -1 ≤ m ∧ m ≤ 1000000) (hc : t.tot ≤ 1073741824) : Con1 Tryd.prog gl 61 [t.dv, dint m] [] (dint (t.cntN m)) [] := by
  induction t using Ty.ind generalizing m with
  | h t ih =>
  refine t_in Tryd.func61 ?_
  intro X hP hgl hf hfn hn hR hids hfit
  have hct := Ty.tot_eq t
  have hlen := Ty.fit_len (hfit t.dv (by simp))
  refine t_g0 ?_
  refine t_a ?_
  refine W_sub [] (by simp [go_sem]) (by simp [go_sem, Ty.cntN.cnts] <;> omega) (by simp [go_sem]) (W_list (t.args) (fun done rest => [(.slot 6, .one (.v (dint done.length))), (.slot 5, .one (.v (dint (Ty.cntN.cnts done (1) m)))), (.slot 1, .one (.v (dint m))), (.loc 2, .row ([.v (dint t.kind), .v (.sl (t.args.map Ty.cells))])), (.slot 2, .one (.loc 2 0)), (.slot 4, .one (.v (dint 0)))]) ?_ ?_)
  · intro done x rest hL hg0 hnext
    have hlt : done.length < t.args.length := by rw [hL]; simp
    have hxm := List.mem_of_getElem? hg0
    have hcx := Ty.tot_mem hxm
    have happ := Ty.cnts_append done (x :: rest) (1) m
    have hta := Ty.tots_append done (x :: rest)
    rw [← hL] at happ hta
    have hsn := Ty.cnts_append done [x] (1) m
    simp only [Ty.cntN.cnts] at hsn
    have hbd := Ty.cnts_bd done (1) m
    generalize hn0 : Ty.cntN.cnts done (1) m = n0 at *
    by_cases hle : n0 ≤ m
    · rw [if_pos hle] at hsn
      have hbx := Ty.cnt_bd x (m - n0)
      refine t_g (j2 @hlt @hle) ?_
      refine t_c1 @hg0 (ih x hxm (m - n0) (by omega) (by omega)) ?_
      refine t_gt (wr []) @hsn trivial hnext
    · rw [Ty.cnts_stop _ _ _ hle] at happ
      refine t_g (j2 @hlt @hle) ?_
      refine t_r ?_
      simp [go_sem, hP, hgl, hn, Ty.cntN_eq, happ] <;> (try omega)
  · have hbd := Ty.cnts_bd t.args (1) m
    refine t_g0 ?_
    refine t_r ?_
    simp [go_sem, hP, hgl, hn, Ty.cntN_eq] <;> (try omega)

namespace Tm
set_option linter.unusedSimpArgs false
set_option linter.unusedVariables false
set_option linter.unnecessarySimpa false
/-- all nodes, with those of its types, and the elements of its lists -/
def tot : Tm → Nat
  | .mk _ _ y a => 1 + y.tot + tots a
where
  tots : List Tm → Nat
    | [] => 0
    | a :: r => a.tot + tots r
/-- what is counted of a tree, up to a number -/
def cntN : Tm → Int → Int
  | .mk _ _ y a, m => cnts a (1 + y.cntN (m - 1)) m
where
  cnts : List Tm → Int → Int → Int
    | [], n, _ => n
    | a :: r, n, m => if n ≤ m then cnts r (n + a.cntN (m - n)) m else n
theorem tot_eq (t : Tm) : t.tot = 1 + t.type.tot + tot.tots t.args := by cases t; rfl
theorem tots_append (l r : List Tm) : tot.tots (l ++ r) = tot.tots l + tot.tots r := by
  induction l with
  | nil => simp [tot.tots]
  | cons a l ih => simp [tot.tots, ih]; omega
theorem tot_mem {l : List Tm} {a : Tm} (h : a ∈ l) : a.tot ≤ tot.tots l := by
  induction l with
  | nil => cases h
  | cons b r ih =>
    simp only [tot.tots]
    rcases List.mem_cons.1 h with rfl | h
    · omega
    · have := ih h; omega
theorem cntN_eq (t : Tm) (m : Int) : t.cntN m = cntN.cnts t.args (1 + t.type.cntN (m - 1)) m := by cases t; rfl
theorem cnts_stop (r : List Tm) (n m : Int) (h : ¬ n ≤ m) : cntN.cnts r n m = n := by cases r <;> simp [cntN.cnts, h]
theorem cnts_append (l r : List Tm) (n m : Int) : cntN.cnts (l ++ r) n m = cntN.cnts r (cntN.cnts l n m) m := by
  induction l generalizing n with
  | nil => rfl
  | cons a l ih =>
    simp only [List.cons_append, cntN.cnts]
    split
    · exact ih _
    · rename_i h; rw [cnts_stop _ _ _ h]
theorem cnts_key {l : List Tm} (h : ∀ a ∈ l, ∀ m : Int, 1 ≤ a.cntN m ∧ a.cntN m ≤ a.tot ∧ (a.cntN m ≤ m → a.cntN m = a.tot)) (m : Int) : ∀ n : Int, n ≤ cntN.cnts l n m ∧ cntN.cnts l n m ≤ n + tot.tots l ∧ (cntN.cnts l n m ≤ m → cntN.cnts l n m = n + tot.tots l) := by
  induction l with
  | nil => intro n; simp [cntN.cnts, tot.tots]
  | cons a r ihr =>
    intro n
    obtain ⟨a1, a2, a3⟩ := h a (by simp) (m - n)
    obtain ⟨b1, b2, b3⟩ := ihr (fun b hb => h b (List.mem_cons_of_mem _ hb)) (n + a.cntN (m - n))
    simp only [cntN.cnts, tot.tots]
    split
    · refine ⟨by omega, by omega, fun hm => ?_⟩
      have := b3 hm
      have := a3 (by omega)
      omega
    · exact ⟨by omega, by omega, by omega⟩
theorem cnt_bd (t : Tm) : ∀ m : Int, 1 ≤ t.cntN m ∧ t.cntN m ≤ t.tot ∧ (t.cntN m ≤ m → t.cntN m = t.tot) := by
  induction t using Tm.ind with
  | h t ih =>
  intro m
  have h0 : 1 ≤ (1 + t.type.cntN (m - 1) : Int) ∧ (1 + t.type.cntN (m - 1) : Int) ≤ (1 + t.type.tot : Nat) ∧ ((1 + t.type.cntN (m - 1) : Int) ≤ m → (1 + t.type.cntN (m - 1) : Int) = (1 + t.type.tot : Nat)) := by
    have := Ty.cnt_bd t.type (m - 1); exact ⟨by omega, by omega, by omega⟩
  obtain ⟨k1, k2, k3⟩ := cnts_key ih m (1 + t.type.cntN (m - 1))
  rw [cntN_eq, tot_eq]
  refine ⟨by omega, by omega, fun h => ?_⟩
  have := k3 h
  have := h0.2.2 (by omega)
  omega
theorem cnts_bd (l : List Tm) (n m : Int) : n ≤ cntN.cnts l n m ∧ cntN.cnts l n m ≤ n + tot.tots l := by
  obtain ⟨h1, h2, -⟩ := cnts_key (fun a _ => cnt_bd a) m n (l := l)
  exact ⟨h1, h2⟩
end Tm

theorem countterm_ok (t : Tm) (m : Int) (hm : 0 ≤ m ∧ m ≤ 1000000) (hc : t.tot ≤ 1073741824) : Con1 Tryd.prog gl 31 [t.dv, dint m] [] (dint (t.cntN m)) [] := by
  induction t using Tm.ind generalizing m with
  | h t ih =>
  refine t_in Tryd.func31 ?_
  intro X hP hgl hf hfn hn hR hids hfit
  have hct := Tm.tot_eq t
  have hlen := Tm.fit_len (hfit t.dv (by simp))
  have hty := Ty.cnt_bd t.type (m - 1)
  refine t_g0 ?_
  refine t_c1 trivial (counttype_ok t.type (m - 1) (by omega) (by omega)) ?_
  refine t_g0 ?_
  refine t_a ?_
  refine W_sub [] (by simp [go_sem]) (by simp [go_sem, Tm.cntN.cnts] <;> omega) (by simp [go_sem]) (W_list (t.args) (fun done rest => [(.slot 6, .one (.v (dint done.length))), (.slot 5, .one (.v (dint (Tm.cntN.cnts done (1 + t.type.cntN (m - 1)) m)))), (.slot 1, .one (.v (dint m))), (.loc 2, .row ([.v (dint t.kind), .v (dint t.index), .v (dint t.type.kind), .v (.sl (t.type.args.map Ty.cells)), .v (.sl (t.args.map Tm.cells))])), (.slot 2, .one (.loc 2 0)), (.slot 4, .one (.v (dint 0)))]) ?_ ?_)
  · intro done x rest hL hg0 hnext
    have hlt : done.length < t.args.length := by rw [hL]; simp
    have hxm := List.mem_of_getElem? hg0
    have hcx := Tm.tot_mem hxm
    have happ := Tm.cnts_append done (x :: rest) (1 + t.type.cntN (m - 1)) m
    have hta := Tm.tots_append done (x :: rest)
    rw [← hL] at happ hta
    have hsn := Tm.cnts_append done [x] (1 + t.type.cntN (m - 1)) m
    simp only [Tm.cntN.cnts] at hsn
    have hbd := Tm.cnts_bd done (1 + t.type.cntN (m - 1)) m
    generalize hn0 : Tm.cntN.cnts done (1 + t.type.cntN (m - 1)) m = n0 at *
    by_cases hle : n0 ≤ m
    · rw [if_pos hle] at hsn
      have hbx := Tm.cnt_bd x (m - n0)
      refine t_g (j2 @hlt @hle) ?_
      refine t_c1 @hg0 (ih x hxm (m - n0) (by omega) (by omega)) ?_
      refine t_gt (wr []) @hsn trivial hnext
    · rw [Tm.cnts_stop _ _ _ hle] at happ
      refine t_g (j2 @hlt @hle) ?_
      refine t_r ?_
      simp [go_sem, hP, hgl, hn, Tm.cntN_eq, happ] <;> (try omega)
  · have hbd := Tm.cnts_bd t.args (1 + t.type.cntN (m - 1)) m
    refine t_g0 ?_
    refine t_r ?_
    simp [go_sem, hP, hgl, hn, Tm.cntN_eq] <;> (try omega)

namespace Val
set_option linter.unusedSimpArgs false
set_option linter.unusedVariables false
set_option linter.unnecessarySimpa false
/-- all nodes, with those of its types, and the elements of its lists -/
def tot : Val → Nat
  | .mk _ _ l a => 1 + l.length + tots a
where
  tots : List Val → Nat
    | [] => 0
    | a :: r => a.tot + tots r
/-- what is counted of a tree, up to a number -/
def cntN : Val → Int → Int
  | .mk _ _ l a, m => cnts a (1 + l.length) m
where
  cnts : List Val → Int → Int → Int
    | [], n, _ => n
    | a :: r, n, m => if n ≤ m then cnts r (n + a.cntN (m - n)) m else n
theorem tot_eq (t : Val) : t.tot = 1 + t.list.length + tot.tots t.args := by cases t; rfl
theorem tots_append (l r : List Val) : tot.tots (l ++ r) = tot.tots l + tot.tots r := by
  induction l with
  | nil => simp [tot.tots]
  | cons a l ih => simp [tot.tots, ih]; omega
theorem tot_mem {l : List Val} {a : Val} (h : a ∈ l) : a.tot ≤ tot.tots l := by
  induction l with
  | nil => cases h
  | cons b r ih =>
    simp only [tot.tots]
    rcases List.mem_cons.1 h with rfl | h
    · omega
    · have := ih h; omega
theorem cntN_eq (t : Val) (m : Int) : t.cntN m = cntN.cnts t.args (1 + t.list.length) m := by cases t; rfl
theorem cnts_stop (r : List Val) (n m : Int) (h : ¬ n ≤ m) : cntN.cnts r n m = n := by cases r <;> simp [cntN.cnts, h]
theorem cnts_append (l r : List Val) (n m : Int) : cntN.cnts (l ++ r) n m = cntN.cnts r (cntN.cnts l n m) m := by
  induction l generalizing n with
  | nil => rfl
  | cons a l ih =>
    simp only [List.cons_append, cntN.cnts]
    split
    · exact ih _
    · rename_i h; rw [cnts_stop _ _ _ h]
theorem cnts_key {l : List Val} (h : ∀ a ∈ l, ∀ m : Int, 1 ≤ a.cntN m ∧ a.cntN m ≤ a.tot ∧ (a.cntN m ≤ m → a.cntN m = a.tot)) (m : Int) : ∀ n : Int, n ≤ cntN.cnts l n m ∧ cntN.cnts l n m ≤ n + tot.tots l ∧ (cntN.cnts l n m ≤ m → cntN.cnts l n m = n + tot.tots l) := by
  induction l with
  | nil => intro n; simp [cntN.cnts, tot.tots]
  | cons a r ihr =>
    intro n
    obtain ⟨a1, a2, a3⟩ := h a (by simp) (m - n)
    obtain ⟨b1, b2, b3⟩ := ihr (fun b hb => h b (List.mem_cons_of_mem _ hb)) (n + a.cntN (m - n))
    simp only [cntN.cnts, tot.tots]
    split
    · refine ⟨by omega, by omega, fun hm => ?_⟩
      have := b3 hm
      have := a3 (by omega)
      omega
    · exact ⟨by omega, by omega, by omega⟩
theorem cnt_bd (t : Val) : ∀ m : Int, 1 ≤ t.cntN m ∧ t.cntN m ≤ t.tot ∧ (t.cntN m ≤ m → t.cntN m = t.tot) := by
  induction t using Val.ind with
  | h t ih =>
  intro m
  have h0 : 1 ≤ (1 + t.list.length : Int) ∧ (1 + t.list.length : Int) ≤ (1 + t.list.length : Nat) ∧ ((1 + t.list.length : Int) ≤ m → (1 + t.list.length : Int) = (1 + t.list.length : Nat)) := by
    exact ⟨by omega, by omega, by omega⟩
  obtain ⟨k1, k2, k3⟩ := cnts_key ih m (1 + t.list.length)
  rw [cntN_eq, tot_eq]
  refine ⟨by omega, by omega, fun h => ?_⟩
  have := k3 h
  have := h0.2.2 (by omega)
  omega
theorem cnts_bd (l : List Val) (n m : Int) : n ≤ cntN.cnts l n m ∧ cntN.cnts l n m ≤ n + tot.tots l := by
  obtain ⟨h1, h2, -⟩ := cnts_key (fun a _ => cnt_bd a) m n (l := l)
  exact ⟨h1, h2⟩
end Val

theorem Ty.tot_count (t : Ty) : t.tot = t.count := by
  induction t using Ty.ind with
  | h t ih =>
  have key : ∀ l : List Ty, (∀ a ∈ l, a.tot = a.count) → Ty.tot.tots l = Ty.count.counts l := by
    intro l
    induction l with
    | nil => intro _; rfl
    | cons a r ihr => intro h; simp only [Ty.tot.tots, Ty.count.counts, h a (by simp), ihr fun b hb => h b (List.mem_cons_of_mem _ hb)]
  rw [Ty.tot_eq, Ty.count_eq, key t.args ih]
theorem Tm.tot_count (t : Tm) : t.count ≤ t.tot ∧ (t.tot ≤ 1073741824 → t.tys) := by
  induction t using Tm.ind with
  | h t ih =>
  have key : ∀ l : List Tm, (∀ a ∈ l, a.count ≤ a.tot) → Tm.count.counts l ≤ Tm.tot.tots l := by
    intro l
    induction l with
    | nil => intro _; exact Nat.le_refl _
    | cons a r ihr =>
      intro h
      have h1 := h a (by simp)
      have h2 := ihr fun b hb => h b (List.mem_cons_of_mem _ hb)
      simp only [Tm.tot.tots, Tm.count.counts]; omega
  have h1 := key t.args fun a ha => (ih a ha).1
  have h2 := Ty.tot_count t.type
  rw [Tm.tot_eq, Tm.count_eq]
  refine ⟨by omega, fun h => (Tm.tys_eq t).2 ⟨by omega, fun a ha => (ih a ha).2 ?_⟩⟩
  have := Tm.tot_mem ha
  omega
theorem Val.tot_count (t : Val) : t.count ≤ t.tot := by
  induction t using Val.ind with
  | h t ih =>
  have key : ∀ l : List Val, (∀ a ∈ l, a.count ≤ a.tot) → Val.count.counts l ≤ Val.tot.tots l := by
    intro l
    induction l with
    | nil => intro _; exact Nat.le_refl _
    | cons a r ihr =>
      intro h
      have h1 := h a (by simp)
      have h2 := ihr fun b hb => h b (List.mem_cons_of_mem _ hb)
      simp only [Val.tot.tots, Val.count.counts]; omega
  have h1 := key t.args ih
  rw [Val.tot_eq, Val.count_eq]
  omega
end Go.Proofs.YtmdjiajbnifjpaaDoor.Lift

/-
  Part X of the small logic: a drawn region whose last operations wait for all others; slices whose cells are written again (raw): a literal, an append in place or to a new block.
-/
namespace Go.Proofs.YtmdjiajbnifjpaaDoor.Lift
set_option linter.unusedSimpArgs false
set_option linter.unusedVariables false
set_option linter.unnecessarySimpa false
open Go
section
variable {X : Ctx} {s s0 : St} {k : List Item}

/-- from place m on, each operation waits for all before it -/
def tailB (T : List Nat) (m n : Nat) : Bool := (List.range n).all fun j => decide (j < m) || (List.range j).all fun i => (T.getD j 0).testBit i
theorem tailB_spec {T : List Nat} {m n : Nat} (h : tailB T m n = true) : ∀ j, m ≤ j → j < n → ∀ i, i < j → (T.getD j 0).testBit i = true := by
  intro j hj hn i hi
  have := List.all_eq_true.1 h j (List.mem_range.2 hn)
  rw [Bool.or_eq_true] at this
  rcases this with h1 | h1
  · exact absurd (of_decide_eq_true h1) (by omega)
  · exact List.all_eq_true.1 h1 i (List.mem_range.2 hi)

theorem seq_any {ops : Array Oper} {m : Nat} {T : List Nat} (hback : backB 0 ops.toList = true) (hfix : fixB T T ops.toList = true) (htail : ∀ j, m ≤ j → j < ops.size → ∀ i, i < j → (T.getD j 0).testBit i = true) {Q : Exit → Act → World → Prop} :
    ∀ (k j fuel : Nat) (listed : Array Bool) (a : Act) (w : World), j + k = ops.size → m ≤ j → listed.size = ops.size → (∀ i, i < ops.size → Lof listed i = decide (i < j)) → k ≤ fuel → wpOpsIn X.F 0 X.P ops Q (List.range' j k) a w → wpAnyIn X.F 0 X.P .any ops Q fuel listed a w
  | 0, j, fuel, listed, a, w, hjk, hm, hsz, hL, hf, hw => by
    have hall : ∀ i, i < ops.size → Lof listed i = true := fun i hi => by rw [hL i hi]; exact decide_eq_true (by omega)
    have hr : ∀ i, ¬ i ∈ Region.ready .any ops listed := by
      intro i hi
      obtain ⟨h1, o, h2, -⟩ := mem_ready.1 hi
      have hj : i < ops.size := (Array.getElem?_eq_some_iff.1 h2).1
      rw [getD_tf (by omega), hall i hj] at h1
      cases h1
    have hQ : Q .normal a w := hw
    cases fuel with
    | zero =>
      refine ⟨?_, hQ⟩
      cases hq : Region.ready .any ops listed with
      | nil => rfl
      | cons i r => exact absurd (by rw [hq]; simp) (hr i)
    | succ fuel => exact ⟨fun _ => hQ, fun i hi => absurd hi (hr i)⟩
  | k + 1, j, fuel, listed, a, w, hjk, hm, hsz, hL, hf, hw => by
    obtain ⟨fuel, rfl⟩ : ∃ f, fuel = f + 1 := ⟨fuel - 1, by omega⟩
    have hjo : j < ops.size := by omega
    have hcl : Closed ops (Lof listed) := by
      intro i o hi ho e he hb
      have hio : i < ops.size := (Array.getElem?_eq_some_iff.1 ho).1
      have hlt := backB_spec hback i o (by simpa using ho) e he hb
      rw [hL i hio] at hi
      have := of_decide_eq_true hi
      rw [hL e.on (by omega)]
      exact decide_eq_true (by omega)
    have hj : j ∈ Region.ready .any ops listed := by
      rw [mem_ready]
      refine ⟨by rw [getD_tf (by omega), hL j hjo]; exact decide_eq_false (by omega), ops[j], Array.getElem?_eq_getElem hjo, fun e he hb => ?_⟩
      have hlt := backB_spec hback j ops[j] (by simp [hjo]) e he hb
      show Lof listed e.on = true
      rw [hL e.on (by omega)]
      exact decide_eq_true (by omega)
    refine ⟨fun hr => absurd hj (by rw [hr]; simp), fun i hi => ?_⟩
    obtain ⟨h1, o, ho, hall⟩ := mem_ready.1 hi
    have hio : i < ops.size := (Array.getElem?_eq_some_iff.1 ho).1
    rw [getD_tf (by omega), hL i hio] at h1
    have hij : j ≤ i := by have := of_decide_eq_false h1; omega
    have hall' : ∀ e ∈ o.after, Region.binds .any e = true → Lof listed e.on = true := hall
    have heq : i = j := by
      rcases Nat.lt_or_ge j i with h | h
      · have := anc_spec hback hfix hcl i o ho hall' (htail i (by omega) hio j h)
        rw [hL j hjo] at this
        exact absurd (of_decide_eq_true this) (by omega)
      · omega
    subst heq
    rw [List.range'_succ, wpOpsIn_cons] at hw
    refine wpOpIn_mono (fun a' w' h' => ?_) hw
    refine seq_any hback hfix htail k (i + 1) fuel _ a' w' (by omega) (by omega) (by simpa using hsz) (fun x hx => ?_) (by omega) h'
    rw [Lof_set (by omega)]
    show (x == i || Lof listed x) = _
    rw [hL x hx]
    by_cases hxi : x = i
    · subst hxi; simp
    · have : (x == i) = false := by simpa using hxi
      rw [this, Bool.false_or]
      congr 1
      exact propext ⟨fun h => by omega, fun h => by omega⟩

theorem draw_anyT {ops ops' : Array Oper} {m : Nat} {T0 : List Nat} (hops : ops.toList.take m = ops'.toList) (hmn : m ≤ ops.size) {evs : List Ev} {K : St → Prop} (hrun : RunL X ops' ops'.toList s0 evs) (hg : ∀ o ∈ ops'.toList, o.guard = none) (hchk : chkB ops'.toList s0 evs = true)
    (hback0 : backB 0 ops.toList = true) (hfix0 : fixB T0 T0 ops.toList = true) (htail : ∀ j, m ≤ j → j < ops.size → ∀ i, i < j → (T0.getD j 0).testBit i = true) (hK : VL X ops (ops.toList.drop m) (appAll s0 evs) K) :
    ∀ (fuel : Nat) (listed : Array Bool) (G : Gh) (a : Act) (w : World), listed.size = ops.size → Closed ops (Lof listed) → (∀ j, m ≤ j → Lof listed j = false) → (left m listed).length + (ops.size - m) ≤ fuel → Rel X G (sel (Lof listed) 0 evs s0) a w →
      wpAnyIn X.F 0 X.P .any ops (Nrm X K) fuel listed a w := by
  simp only [chkB, Bool.and_eq_true] at hchk
  obtain ⟨⟨⟨hback, hfix⟩, hfr⟩, hp⟩ := hchk
  generalize tabGo ops'.toList [] = T at *
  have hsz' : ops'.size = m := by
    have := congrArg List.length hops
    simp at this
    omega
  have hlen : evs.length = m := by have := RunL_length hrun; simp at this; omega
  have hget : ∀ i, i < m → ops'[i]? = ops[i]? := by
    intro i hi
    have h1 : ops'.toList[i]? = ops.toList[i]? := by rw [← hops, List.getElem?_take_of_lt hi]
    simpa using h1
  intro fuel
  induction fuel with
  | zero =>
    intro listed G a w hsz hcl htl hle R
    have hm0 : m = ops.size := by omega
    have hall : ∀ j, j < m → Lof listed j = true := by
      intro j hj
      cases hq : Lof listed j with
      | true => rfl
      | false =>
        have hm : j ∈ left m listed := by simp [left, hj, hq]
        have := List.length_pos_of_mem hm
        omega
    refine seq_any hback0 hfix0 htail 0 m 0 listed a w (by omega) (Nat.le_refl _) hsz (fun i hi => by rw [hall i (by omega)]; exact (decide_eq_true (by omega)).symm) (Nat.le_refl _) ?_
    have R' : Rel X G (appAll s0 evs) a w := R.congr fun l => by
      rw [← sel_all 0]
      refine sel_diff evs 0 _ _ rfl fun j ev hj hne => ?_
      have hj' : j < m := by rw [← hlen]; exact (List.getElem?_eq_some_iff.1 hj).1
      exact absurd (hall j hj').symm (by simpa using hne)
    have := hK m rfl G a w R'
    have hd : (ops.toList.drop m).length = 0 := by simp; omega
    rw [hd] at this
    exact this
  | succ fuel ih =>
    intro listed G a w hsz hcl htl hle R
    by_cases hall : ∀ j, j < m → Lof listed j = true
    · have R' : Rel X G (appAll s0 evs) a w := R.congr fun l => by
        rw [← sel_all 0]
        refine sel_diff evs 0 _ _ rfl fun j ev hj hne => ?_
        have hj' : j < m := by rw [← hlen]; exact (List.getElem?_eq_some_iff.1 hj).1
        exact absurd (hall j hj').symm (by simpa using hne)
      have hw := hK m rfl G a w R'
      have hd : (ops.toList.drop m).length = ops.size - m := by simp
      rw [hd] at hw
      refine seq_any hback0 hfix0 htail (ops.size - m) m (fuel + 1) listed a w (by omega) (Nat.le_refl _) hsz (fun i hi => ?_) (by omega) hw
      by_cases him : i < m
      · rw [hall i him]; exact (decide_eq_true him).symm
      · rw [htl i (by omega)]; exact (decide_eq_false him).symm
    have hex : ∃ j, j < m ∧ Lof listed j = false := by
      by_cases h : ∃ j, j < m ∧ Lof listed j = false
      · exact h
      · exact absurd (fun j hj => by
          cases hq : Lof listed j with
          | true => rfl
          | false => exact absurd ⟨j, hj, hq⟩ h) hall
    have hstuck : Region.ready .any ops listed = [] → ∀ j, j < m → Lof listed j = true := by
      intro hr j
      induction j using Nat.strongRecOn with
      | _ j ihj =>
        intro hj
        cases hq : Lof listed j with
        | true => rfl
        | false =>
          have hjo : j < ops.size := by omega
          have : j ∈ Region.ready .any ops listed := by
            rw [mem_ready]
            refine ⟨by rw [getD_tf (by omega)]; exact hq, ops[j], Array.getElem?_eq_getElem hjo, fun e he hb => ?_⟩
            have hlt := backB_spec hback0 j ops[j] (by simp [hjo]) e he hb
            exact ihj e.on (by omega) (by omega)
          rw [hr] at this
          cases this
    refine ⟨fun hr => absurd (hstuck hr) hall, fun i hi => ?_⟩
    obtain ⟨h1, o, ho, hall1⟩ := mem_ready.1 hi
    have hio : i < ops.size := (Array.getElem?_eq_some_iff.1 ho).1
    have hil : i < listed.size := by omega
    rw [getD_tf hil] at h1
    have hall' : ∀ e ∈ o.after, Region.binds .any e = true → Lof listed e.on = true := hall1
    have him : i < m := by
      rcases Nat.lt_or_ge i m with h | h
      · exact h
      · exact absurd (fun j hj => anc_spec hback0 hfix0 hcl i o ho hall' (htail i h hio j (by omega))) hall
    have hcl' : Closed ops' (Lof listed) := by
      intro j o' hL ho' e he hb
      have hj : j < m := by have := (Array.getElem?_eq_some_iff.1 ho').1; omega
      exact hcl j o' hL (by rw [← hget j hj]; exact ho') e he hb
    have ho' : ops'[i]? = some o := by rw [hget i him]; exact ho
    have hie : i < evs.length := by omega
    have hev : evs[i]? = some evs[i] := List.getElem?_eq_getElem hie
    have hstep := RunL_at 0 hrun i o evs[i] (by simpa using ho') hev
    have hind1 : ∀ (j : Nat) (ev : Ev), evs[j]? = some ev → i < j → Lof listed j = true → apart evs[i] ev = true := by
      intro j ev hj hij hL
      have hjm : j < m := by rw [← hlen]; exact (List.getElem?_eq_some_iff.1 hj).1
      have hjo : j < ops'.size := by omega
      rcases (chkP_spec hp i j _ ev hij hev hj).2 with h | h
      · have := anc_spec hback hfix hcl' j ops'[j] (Array.getElem?_eq_getElem hjo) (fun e he hb => hcl' j _ hL (Array.getElem?_eq_getElem hjo) e he hb) (by simpa using h)
        rw [h1] at this; cases this
      · exact h
    have hind2 : ∀ (j : Nat) (ev : Ev), evs[j]? = some ev → j < i → Lof listed j = false → apart ev evs[i] = true := by
      intro j ev hj hij hL
      rcases (chkP_spec hp j i ev _ hij hj hev).2 with h | h
      · have := anc_spec hback hfix hcl' i o ho' hall' (by simpa using h)
        rw [hL] at this; cases this
      · exact h
    have hop : OpOK X ops' o (sel (Lof listed) 0 evs s0) (apply (sel (Lof listed) 0 evs s0) evs[i].e) := by
      refine hstep _ (fun l v hl => ?_) (fun d hd => ?_)
      · obtain ⟨hfp, hg⟩ := get_restr hl
        rw [← hg]
        refine sel_diff evs 0 _ _ rfl fun j ev hj hne hw => ?_
        simp only [Nat.zero_add] at hne
        by_cases hij : j < i
        · cases hq : Lof listed j with
          | true => rw [hq] at hne; simp [hij] at hne
          | false =>
            have := hind2 j ev hj hij hq
            simp only [apart, Bool.and_eq_true, disL_iff] at this
            exact this.1.1.1 l hw hfp
        · cases hq : Lof listed j with
          | false => rw [hq] at hne; simp [hij] at hne
          | true =>
            have hne' : j ≠ i := fun e => by rw [e, h1] at hq; cases hq
            have := hind1 j ev hj (by omega) hq
            simp only [apart, Bool.and_eq_true, disL_iff] at this
            exact this.1.1.2 l hw hfp
      · refine sel_fresh evs 0 s0 (chkF_spec hfr i _ hev d hd) fun j ev hj hL => ?_
        simp only [Nat.zero_add] at hL
        have hne' : j ≠ i := fun e => by rw [e, h1] at hL; cases hL
        by_cases hij : j < i
        · exact (chkP_spec hp j i ev _ hij hj hev).1 d hd
        · have := hind1 j ev hj (by omega) hL
          simp only [apart, Bool.and_eq_true, allN_iff] at this
          simpa using this.2 d hd
    have hnext : ∀ G' a' w', Rel X G' (apply (sel (Lof listed) 0 evs s0) evs[i].e) a' w' → wpAnyIn X.F 0 X.P .any ops (Nrm X K) fuel (listed.setIfInBounds i true) a' w' := by
      intro G' a' w' R'
      refine ih _ G' a' w' (by simpa using hsz) ?_ ?_ ?_ ?_
      · rw [Lof_set hil]
        intro j o' hL hoj e he hb
        simp only [Bool.or_eq_true, beq_iff_eq] at hL ⊢
        rcases hL with rfl | hL
        · rw [ho] at hoj; cases hoj
          exact .inr (hall' e he hb)
        · exact .inr (hcl j o' hL hoj e he hb)
      · intro j hj
        rw [Lof_set hil]
        show (j == i || Lof listed j) = false
        rw [htl j hj, Bool.or_false]
        simp; omega
      · have := left_set (n := m) hil him h1
        omega
      · rw [Lof_set hil]
        refine R'.congr fun l => sel_add h1 evs 0 s0 (Nat.zero_le _) hev fun j ev hj hlt hL hw => ?_
        simp only [Nat.zero_add] at hlt hL
        have := hind1 j ev hj hlt hL
        simp only [apart, Bool.and_eq_true, disL_iff] at this
        exact this.1.2 l hw
    have hgn : o.guard = none := hg o (List.mem_of_getElem? (i := i) (by simpa using ho'))
    have := hop G a w R _ (Nrm X K) hnext
    unfold wpOpIn
    simp only [ho]
    have hw : ∀ y, Region.wanted o y = true := fun y => by simp [Region.wanted, hgn]
    simp only [hw, if_true] at this ⊢
    exact this

def tailOK (ops : List Oper) (m : Nat) : Bool :=
  let T := tabGo ops []
  backB 0 ops && fixB T T ops && tailB T m ops.length && (ops.take m).all fun o => o.guard.isNone

/-- A DRAWN REGION WHOSE LAST OPERATIONS WAIT FOR ALL OTHERS: these are walked one by one -/
theorem W_regT {id : Nat} {ops : Array Oper} {s : St} (hm : X.P.follows .mixedOrders = true) (m : Nat) (hmn : m ≤ ops.size) (hfull : tailOK ops.toList m = true) (esc esc' : List Nat)
    (h : ∀ K : St → Prop, (∀ s', W X k s' → K s') → vcd X esc (ops.toList.take m).toArray s (fun s' => vc X esc' ops (ops.toList.drop m) s' K) (ops.toList.take m) s []) : W X (.code (.region id ops true) :: k) s := by
  intro G a w b cs hf hk hr R
  simp only [tailOK, Bool.and_eq_true, List.all_eq_true] at hfull
  obtain ⟨⟨⟨t1, t2⟩, t3⟩, t4⟩ := hfull
  obtain ⟨evs, h1, h2, h3⟩ := vcd_sound (h (fun s' => W X k s') (fun _ h => h))
  have ht : (ops.toList.take m).toArray.toList = ops.toList.take m := rfl
  have h3' : VL X ops (ops.toList.drop m) (appAll s evs) (fun s' => W X k s') := vc_sound h3
  have hany := draw_anyT (ops' := (ops.toList.take m).toArray) (s0 := s) rfl hmn (by rw [ht]; exact h1) (fun o ho => by have := t4 o (by simpa using ho); cases hq : o.guard with | none => rfl | some _ => rw [hq] at this; cases this) (by simpa using h2) t1 t2 (tailB_spec (by simpa using t3)) h3' ops.size (Array.replicate ops.size false) G a { w with drawn := w.drawn + 1 } (by simp) (fun j o hL => by simp [Lof, Array.getElem?_replicate] at hL; split at hL <;> simp at hL) (fun j _ => by simp only [Lof, Array.getD_eq_getD_getElem?, Array.getElem?_replicate]; split <;> rfl) (by
      have : (left m (Array.replicate ops.size false)).length ≤ m := Nat.le_trans (List.length_filter_le _ _) (by simp)
      omega) (by
      rw [sel_none _ _ _ (fun j _ => by simp only [Lof, Array.getD_eq_getD_getElem?, Array.getElem?_replicate]; split <;> rfl)]
      exact R.drawn _)
  obtain ⟨e', a', w', ⟨rfl, G', s', hK, R'⟩, harr⟩ := wpIn_region_any (F := X.F) (n := 0) hm hany b k cs hr trivial (roomF _)
  obtain ⟨w'', fr, q1, q2⟩ := hK G' a' w' b cs hf hk hr R'
  exact ⟨w'', fr, q1, Steps.trans (StepsIn.steps harr) q2⟩

/-! raw slices: the slice's value is a datum of its own, its block an object -/
abbrev rawS (b n cap : Nat) : DV := .prim (.slice (some ⟨b, 0, none⟩) n cap)

theorem put_mid (A M D xs : List SV) (h : xs.length = M.length) : put (A ++ (M ++ D)) A.length xs = A ++ (xs ++ D) := by
  apply List.ext_getElem?
  intro i
  rw [get_put _ _ _ _ (by simp; omega)]
  split
  · rename_i hi
    rw [List.getElem?_append_right hi.1, List.getElem?_append_left (by omega)]
  · rename_i hi
    by_cases h1 : i < A.length
    · rw [List.getElem?_append_left h1, List.getElem?_append_left h1]
    · have h2 : A.length + xs.length ≤ i := by omega
      rw [List.getElem?_append_right (by omega), List.getElem?_append_right (by omega), List.getElem?_append_right (by omega), List.getElem?_append_right (by omega), h]
theorem arrRow_append (l r : List (List DV)) : arrRow (l ++ r) = arrRow l ++ arrRow r := by simp [arrRow]
theorem arrRow_len {E : Nat} {l : List (List DV)} (h : ∀ e ∈ l, e.length = E) : (arrRow l).length = l.length * E := by simp only [arrRow, List.length_map]; exact flatten_len h
theorem arrRow_put {E : Nat} {full zs : List (List DV)} {n : Nat} (hE1 : ∀ e ∈ full, e.length = E) (hE2 : ∀ e ∈ zs, e.length = E) (hle : n + zs.length ≤ full.length) :
    put (arrRow full) (n * E) (arrRow zs) = arrRow (full.take n ++ zs ++ full.drop (n + zs.length)) := by
  have h1 : full = full.take n ++ ((full.drop n).take zs.length ++ full.drop (n + zs.length)) := by
    have := List.take_append_drop zs.length (full.drop n)
    rw [List.drop_drop] at this
    rw [this, List.take_append_drop]
  have m1 : ∀ e ∈ full.take n, e.length = E := fun e he => hE1 e (List.mem_of_mem_take he)
  have m2 : ∀ e ∈ (full.drop n).take zs.length, e.length = E := fun e he => hE1 e (List.mem_of_mem_drop (List.mem_of_mem_take he))
  have e1 : (arrRow (full.take n)).length = n * E := by rw [arrRow_len m1, List.length_take, Nat.min_eq_left (by omega)]
  have e2 : (arrRow zs).length = (arrRow ((full.drop n).take zs.length)).length := by rw [arrRow_len hE2, arrRow_len m2, List.length_take, List.length_drop, Nat.min_eq_left (by omega)]
  have h2 : arrRow full = arrRow (full.take n) ++ (arrRow ((full.drop n).take zs.length) ++ arrRow (full.drop (n + zs.length))) := by rw [← arrRow_append, ← arrRow_append, ← h1]
  rw [h2, ← e1, put_mid _ _ _ _ e2, arrRow_append, arrRow_append, List.append_assoc]

/-- the cells of elements that are laid -/
theorem rowOf_laid {G : Gh} {w : World} {E : Nat} {zs : List (List DV)} {g : Nat → Value} (hE : ∀ e ∈ zs, e.length = E) (h : Laid G.D w E zs g) : RowOf G w (arrRow zs) (arr g (zs.length * E)) := by
  have hl := flatten_len hE
  refine ⟨by rw [arr_size, arrRow_len hE], fun i x v hx hv => ?_⟩
  simp only [arrRow, List.getElem?_map] at hx
  cases hd0 : zs.flatten[i]? with
  | none => rw [hd0] at hx; cases hx
  | some dd =>
    rw [hd0] at hx
    cases hx
    obtain ⟨i1, j1, e1, k1, k2, rfl⟩ := flatten_get hE hd0
    have hj : j1 < E := by rw [← hE e1 (List.mem_of_getElem? k1)]; exact (List.getElem?_eq_some_iff.1 k2).1
    have hi : i1 < zs.length := (List.getElem?_eq_some_iff.1 k1).1
    rw [arr_get _ _ _ (lt_mul hi hj)] at hv
    cases hv
    exact h i1 j1 e1 dd k1 k2
theorem cellBS_arrRow {zs : List (List DV)} (h : ∀ e ∈ zs, ∀ c ∈ e, DV.isCell c = true) : cellBS (arrRow zs) = true := by
  rw [cellBS_iff]
  intro x hx
  simp only [arrRow, List.mem_map, List.mem_flatten] at hx
  obtain ⟨d, ⟨e, he, hd⟩, rfl⟩ := hx
  exact h e he d hd

/-- append in place -/
theorem step_appendF {o : Oper} {x y : Operand} {T T2 : TypeId} (ho : o.op = .call { callee := .builtin .append, args := #[x, y], argTypes := #[T, T2] }) {d : Nat} (hd : o.dst = some d) (hn : d < X.n)
    {E B : Nat} (he : elemZ X.P T = some (E, B)) (h2 : (elemT X.P T2).isSome = true) {b n cap : Nat} {full zs : List (List DV)} (hx : evl X (get s) x = some (.v (rawS b n cap))) (hy : (evl X (get s) y).bind slOf = some zs)
    (hrow : get s (.heap b) = some (.row (arrRow full))) (hfl : full.length = cap) (hle : n + zs.length ≤ cap) (hE1 : ∀ e ∈ full, e.length = E) (hE2 : ∀ e ∈ zs, e.length = E) :
    StepOK X s o (upd (upd s (.heap b) (.row (arrRow (full.take n ++ zs ++ full.drop (n + zs.length))))) (.slot d) (.one (.v (rawS b (n + zs.length) cap)))) := by
  intro G a w R next Q hK
  have hv := (prim_of (evl_sound R hx)).1
  obtain ⟨q, hq, hq'⟩ := Option.bind_eq_some_iff.1 hy
  obtain ⟨yb, ycap, hyv, hyr, -⟩ := slOf_sound hq' (evl_sound R hq)
  obtain ⟨c2, g, g1, g2, g3⟩ := sl_laid hyr hE2
  have hle2 : n * E + (arrRow zs).length ≤ (arrRow full).length := by
    rw [arrRow_len hE1, arrRow_len hE2, ← Nat.add_mul, hfl]; exact Nat.mul_le_mul_right _ hle
  obtain ⟨w', h1, h2'⟩ := R.storeRow hrow rfl (b := b) rfl (rowOf_laid hE2 g1) (cellBS_arrRow c2) hle2
  have hrun := run_append_fits (P := X.P) (t := T) (ty := o.type) (t2 := T2) (w := w) he h2 (base := some ⟨b, 0, none⟩) (len := n) (cap := cap) (lenOf_sl (P := X.P) hyr w) (run_firstCells (P := X.P) g3) hle (w' := w') (by simp only [addr_add, Nat.zero_add]; exact h1)
  rw [← hv] at hrun
  refine opIn (by intro c e; rw [ho] at e; cases e) ?_
  have hexec : (execOp a.eval o).run X.P w = .ok (.value (.slice (some ⟨b, 0, none⟩) (n + zs.length) cap)) w' := by
    simp [execOp, ho, resolve, invoke, builtin, hrun]
  rw [hexec, upn_value, hd]
  rw [arrRow_put hE1 hE2 (by omega)] at h2'
  exact hK G _ w' (h2'.setSlot (Trans.refl X G a w' R.nil) rfl rfl (fun _ h => h) hn (.prim _ trivial))

/-- a new block whose first cells are told -/
theorem Rel.newArr {G : Gh} {a : Act} {w : World} (R : Rel X G s a w) {d : Nat} (hn : d < X.n) {w1 : World} (hw1 : w1.heap = w.heap) {c : Array Value} {e : TypeId} {E : Nat} {full : List (List DV)} {n cap : Nat}
    (T' : Trans X G a w G (a.put (some d) (.slice (some ⟨w.heap.size, 0, none⟩) n cap)) (w1.alloc (.cells c e)) (fun _ => False))
    (hE : ∀ e ∈ full, e.length = E) (hcell : ∀ e ∈ full, ∀ c ∈ e, DV.isCell c = true) (hc : full.length * E ≤ c.size) (hget : ∀ (i j : Nat) (e : List DV) (dd : DV), full[i]? = some e → e[j]? = some dd → ∃ v, c[i * E + j]? = some v ∧ RV G.D w dd v) :
    Rel X G (upd (upd s (.slot d) (.one (.v (rawS w.heap.size n cap)))) (.heap w.heap.size) (.row (arrRow full))) (a.put (some d) (.slice (some ⟨w.heap.size, 0, none⟩) n cap)) (w1.alloc (.cells c e)) := by
  have hp := put_tmps a (some d) (.slice (some ⟨w.heap.size, 0, none⟩) n cap)
  refine R.step T' (fun l u => (l = .slot d ∧ u = .one (.v (rawS w.heap.size n cap))) ∨ (l = .heap w.heap.size ∧ u = .row (arrRow full))) (fun l u h => ?_) (fun l u h => ?_) (fun l u l' u' b h h' hb hb' => ?_)
  · rw [get_upd, get_upd] at h
    by_cases h1 : Loc.heap w.heap.size = l
    · rw [if_pos h1] at h; cases h; exact .inl (.inr ⟨h1.symm, rfl⟩)
    · rw [if_neg h1] at h
      by_cases h3 : Loc.slot d = l
      · rw [if_pos h3] at h; cases h; exact .inl (.inl ⟨h3.symm, rfl⟩)
      · rw [if_neg h3] at h
        exact .inr ⟨h, fun n hn => put_get_ne _ _ _ _ (fun e => h3 (by rw [hn, e])), fun b hb hBb => hBb.elim, fun _ _ => rfl, fun _ _ => rfl⟩
  · rcases h with ⟨rfl, rfl⟩ | ⟨rfl, rfl⟩
    · refine ⟨?_, fun b hb => by cases hb⟩
      show RSV G _ (.v _) _
      rw [put_get_same _ _ _ (by rw [R.size]; exact hn)]
      exact .prim _ trivial
    · refine ⟨⟨c, e, ?_, ?_, fun i x hx => ?_⟩, fun b hb => ?_⟩
      · have := alloc_new w1 (.cells c e)
        rw [hw1] at this
        exact this
      · rw [arrRow_len hE]; exact hc
      · simp only [arrRow, List.getElem?_map] at hx
        cases hd0 : full.flatten[i]? with
        | none => rw [hd0] at hx; cases hx
        | some dd =>
          rw [hd0] at hx
          cases hx
          obtain ⟨i1, j1, e1, k1, k2, rfl⟩ := flatten_get hE hd0
          obtain ⟨v, hv, hr⟩ := hget i1 j1 e1 dd k1 k2
          exact ⟨hcell e1 (List.mem_of_getElem? k1) dd (List.mem_of_getElem? k2), v, hv, hr.mono T'.grow⟩
      · cases hb
        exact ⟨.inl (Nat.le_refl _), .inl R.ext.size, fun _ o hD => absurd (R.wf.lt hD) (Nat.lt_irrefl _)⟩
  · rcases h with ⟨rfl, rfl⟩ | ⟨rfl, rfl⟩
    · cases hb
    · rcases h' with ⟨rfl, rfl⟩ | ⟨rfl, rfl⟩
      · cases hb'
      · rfl
theorem newB_size {G : Gh} {a : Act} {w : World} (R : Rel X G s a w) : newB w.heap.size s := newB_of fun v hv => by
  have hh := R.holds _ _ hv
  cases v with
  | row cs => exact absurd (blk_lt hh rfl) (Nat.lt_irrefl _)
  | ob r => exact absurd (blk_lt hh rfl) (Nat.lt_irrefl _)
  | mp l => exact absurd (blk_lt hh rfl) (Nat.lt_irrefl _)
  | one x => exact hh.elim
  | tk E n => exact hh.elim

/-- the zero of a slice's elements -/
def zeroE (P : Program) (T : TypeId) : Option (List DV) :=
  match P.underlying T with
  | some (.slice e) => (zeroT P e).bind toDs
  | _ => none

theorem mod_mul_add {E i j : Nat} (hj : j < E) : (i * E + j) % E = j := by
  rw [Nat.mul_comm, Nat.mul_add_mod]; exact Nat.mod_eq_of_lt hj

theorem run_append_newZ {P : Program} {w : World} {t ty t2 E B : Nat} (he : elemZ P t = some (E, B)) (hB : 0 < B ∧ B ≤ 1024) (h2 : (elemT P t2).isSome = true) {base : Option Addr} {len cap : Nat} {x : Value} {n : Nat} {old new : Array Value}
    (hx : ∀ w', w'.heap = w.heap → (Builtin.lenOf x).run P w' = .ok n w') (hn : ∀ w', w'.heap = w.heap → (Builtin.firstCells E n x).run P w' = .ok new w') (ho : ∀ w', w'.heap = w.heap → (Builtin.firstCells E len (.slice base len cap)).run P w' = .ok old w')
    (hle : ¬ len + n ≤ cap) (hbig : len + n ≤ BIG) (h1 : old.size = len * E) (h3 : new.size = n * E) {zd : List DV} (hz : zeroE P t = some zd) :
    zd.length = E ∧ ∃ c e nc, (Builtin.append_ #[t, t2] ty #[.slice base len cap, x]).run P w = .ok (.slice (some ⟨w.heap.size, 0, none⟩) (len + n) nc) (w.drew.alloc (.cells c e)) ∧ len + n ≤ nc ∧ c.size = nc * E ∧ (∀ k, k < len * E → c[k]? = old[k]?) ∧ (∀ k, k < n * E → c[len * E + k]? = new[k]?) ∧
      ∀ (G : Gh) (w' : World), G.τ 0 = (none, 0) → ∀ (i j : Nat) (dd : DV), i < nc - (len + n) → zd[j]? = some dd → ∃ v, c[(len + n + i) * E + j]? = some v ∧ RV G.D w' dd v := by
  obtain ⟨e, i, z, hu, hi, hzv, hzs, his, hib⟩ := elemZ_run he
  obtain ⟨E2, hE2⟩ := Option.isSome_iff_exists.1 h2
  obtain ⟨e2, i2, hu2, -, -⟩ := elem_run hE2
  have hzz : ∃ cs, zeroS z.cells.toList = some cs ∧ toDs cs = some zd := by
    simp only [zeroE, hu, zeroT, hi, hzv] at hz
    exact Option.bind_eq_some_iff.1 hz
  obtain ⟨zcs, hz1, hz2⟩ := hzz
  have hzl : zd.length = E := by
    have h0 : RowOf { D := fun _ _ => False, ν := fun _ => 0, τ := fun _ => (none, 0) } w zcs z.cells.toList.toArray := zeroS_sound rfl hz1
    have := (toDs_row h0 hz2).1
    rw [← this]
    simpa using hzs
  refine ⟨hzl, ?_⟩
  unfold BIG at hbig
  have hcap : ¬ (Builtin.nextslicecap (len + n) cap * B > 2 ^ 48) := by
    have := nextslicecap_le (need := len + n) (cap := cap) (by omega)
    have : Builtin.nextslicecap (len + n) cap * B ≤ (2 * (len + n) + 600) * 1024 := Nat.mul_le_mul this hB.2
    omega
  let q : Question := .appendCap (len + n) cap e
  let nc := q.cut (w.tape w.drawn q)
  have hnc : len + n ≤ nc := by show len + n ≤ _; simp [nc, q, Question.cut]
  have hzc : (Builtin.zeroCells z.cells (nc - (len + n))).size = (nc - (len + n)) * E := by simp [Builtin.zeroCells, hzs]
  refine ⟨old ++ new ++ Builtin.zeroCells z.cells (nc - (len + n)), e, nc, ?_, hnc, ?_, fun k hk => ?_, fun k hk => ?_, fun G w' hG i j dd hi' hj => ?_⟩
  · unfold Builtin.append_
    have hc' : ¬ (2 ^ 48 < Builtin.nextslicecap (len + n) cap * B) := hcap
    simp [run_underlying hu, run_underlying hu2, sizeOf, typeInfo, hi, his, hx w rfl, hle, hib, hc', Question.forced, ho (w.drew) rfl, hn (w.drew) rfl, zeroValue, hzv, newRow, nc, q]
    intro h
    omega
  · simp [h1, h3, Builtin.zeroCells, hzs]
    rw [← Nat.add_mul, ← Nat.add_mul]
    congr 1; omega
  · rw [Array.getElem?_append_left (by simp [h1, h3]; omega), Array.getElem?_append_left (by omega)]
  · rw [Array.getElem?_append_left (by simp [h1, h3]; omega), Array.getElem?_append_right (by omega), h1]
    congr 1; omega
  · have hjE : j < E := by rw [← hzl]; exact (List.getElem?_eq_some_iff.1 hj).1
    have hlt : i * E + j < (nc - (len + n)) * E := lt_mul hi' hjE
    have hrow : RowOf G w' zcs z.cells.toList.toArray := zeroS_sound hG hz1
    have hr := (toDs_row hrow hz2).2 j dd
    simp only [Array.toArray_toList] at hr
    have hjz : j < z.cells.size := by omega
    refine ⟨z.cells[j], ?_, hr _ hj (Array.getElem?_eq_getElem hjz)⟩
    have hsz : (old ++ new).size = (len + n) * E := by simp [h1, h3, Nat.add_mul]
    have e1 : (len + n + i) * E + j = (old ++ new).size + (i * E + j) := by rw [hsz, Nat.add_mul (len + n) i E]; omega
    rw [e1, Array.getElem?_append_right (Nat.le_add_right _ _), Nat.add_sub_cancel_left]
    have hs2 : i * E + j < (nc - (len + n)) * z.cells.size := by rw [hzs]; exact hlt
    simp only [Builtin.zeroCells]
    rw [Array.getElem?_map, Array.getElem?_range, if_pos hs2]
    simp only [Option.map_some, hzs, mod_mul_add hjE]
    rw [getElem!_pos z.cells j hjz]

theorem flatten_at {E : Nat} : ∀ {ys : List (List DV)}, (∀ e ∈ ys, e.length = E) → ∀ {i j : Nat} {e : List DV} {d : DV}, ys[i]? = some e → e[j]? = some d → ys.flatten[i * E + j]? = some d
  | [], _, i, j, e, d, h, _ => by simp at h
  | y :: r, hE, 0, j, e, d, h, hd => by
    simp at h
    subst h
    rw [List.flatten_cons, Nat.zero_mul, Nat.zero_add, List.getElem?_append_left (List.getElem?_eq_some_iff.1 hd).1]
    exact hd
  | y :: r, hE, i + 1, j, e, d, h, hd => by
    have hy := hE y (by simp)
    have ih := flatten_at (ys := r) (fun e he => hE e (List.mem_cons_of_mem _ he)) (by simpa using h) hd
    rw [List.flatten_cons, List.getElem?_append_right (by rw [hy, Nat.add_mul]; omega), hy]
    rw [show (i + 1) * E + j - E = i * E + j from by rw [Nat.add_mul]; omega]
    exact ih

/-- append to a new block -/
theorem step_appendN {o : Oper} {x y : Operand} {T T2 : TypeId} (ho : o.op = .call { callee := .builtin .append, args := #[x, y], argTypes := #[T, T2] }) {d : Nat} (hd : o.dst = some d) (hn : d < X.n)
    {E B : Nat} (he : elemZ X.P T = some (E, B)) (hB : 0 < B ∧ B ≤ 1024) (h2 : (elemT X.P T2).isSome = true) {b n cap : Nat} {full zs : List (List DV)} {zd : List DV} (hx : evl X (get s) x = some (.v (rawS b n cap))) (hy : (evl X (get s) y).bind slOf = some zs)
    (hrow : get s (.heap b) = some (.row (arrRow full))) (hfl : full.length = cap) (hnc : n ≤ cap) (hnf : cap < n + zs.length) (hbig : n + zs.length ≤ BIG) (hE1 : ∀ e ∈ full, e.length = E) (hE2 : ∀ e ∈ zs, e.length = E) (hz : zeroE X.P T = some zd) (hzc : cellB zd = true)
    {G : Gh} {a : Act} {w : World} (R : Rel X G s a w) (next : Act → World → Prop) (Q : Exit → Act → World → Prop)
    (hK : ∀ b' cap', n + zs.length ≤ cap' → newB b' s → X.w0.heap.size ≤ b' → ∀ G' a' w', Rel X G' (upd (upd s (.slot d) (.one (.v (rawS b' (n + zs.length) cap')))) (.heap b') (.row (arrRow (full.take n ++ zs ++ List.replicate (cap' - (n + zs.length)) zd)))) a' w' → next a' w') :
    o.wpIn X.F 0 X.P a w next Q := by
  have hv := (prim_of (evl_sound R hx)).1
  obtain ⟨q, hq, hq'⟩ := Option.bind_eq_some_iff.1 hy
  obtain ⟨yb, ycap, hyv, hyr, -⟩ := slOf_sound hq' (evl_sound R hq)
  obtain ⟨c2, g, g1, g2, g3⟩ := sl_laid hyr hE2
  obtain ⟨c0, e0, k1, k2, k3⟩ : BlkAt G w b (arrRow full) := R.holds _ _ hrow
  rw [arrRow_len hE1] at k2
  have hnE : n * E ≤ full.length * E := Nat.mul_le_mul_right _ (by omega)
  have hdr : ∀ w' : World, w'.heap = w.heap → (Builtin.firstCells E zs.length (a.eval y)).run X.P w' = .ok (arr g (zs.length * E)) w' := fun w' hw => by
    refine run_firstCells (D := G.D) ?_
    rcases g3 with h | ⟨b, o', cap, h, hc⟩
    · exact .inl h
    · exact .inr ⟨b, o', cap, h, fun k hk => by rw [cell_of_heap hw]; exact hc k hk⟩
  have hdo : ∀ w' : World, w'.heap = w.heap → (Builtin.firstCells E n (.slice (some ⟨b, 0, none⟩) n cap)).run X.P w' = .ok (arr (fun k => (c0[k]?).getD undef) (n * E)) w' := fun w' hw => by
    simp only [Builtin.firstCells]
    refine run_loadCells_f b 0 (n * E) _ (fun k hk => ?_)
    have hlt : k < c0.size := by omega
    rw [cell_of_heap hw, Nat.zero_add]
    simp [World.cell?, k1, hlt]
  obtain ⟨hzl, c, e, nc, r1, r2, r3, r4, r5, r6⟩ := run_append_newZ (P := X.P) (t := T) (ty := o.type) (t2 := T2) (w := w) he hB h2 (base := some ⟨b, 0, none⟩) (len := n) (cap := cap) (fun w' _ => lenOf_sl (P := X.P) hyr w') hdr hdo (by omega) hbig (arr_size _ _) (arr_size _ _) hz
  rw [← hv] at r1
  have hexec : (execOp a.eval o).run X.P w = .ok (.value (.slice (some ⟨w.heap.size, 0, none⟩) (n + zs.length) nc)) (w.drew.alloc (.cells c e)) := by
    simp [execOp, ho, resolve, invoke, builtin, r1]
  refine opIn (by intro c e; rw [ho] at e; cases e) ?_
  rw [hexec, upn_value, hd]
  have hp := put_tmps a (some d) (.slice (some ⟨w.heap.size, 0, none⟩) (n + zs.length) nc)
  have T' : Trans X G a w G (a.put (some d) (.slice (some ⟨w.heap.size, 0, none⟩) (n + zs.length) nc)) (w.drew.alloc (.cells c e)) (fun _ => False) := by
    refine ⟨hp.1, fun h => (h.heap fun b hb => alloc_old w.drew _ b hb).put hp.2, rfl, rfl, rfl, by simp, fun b hb _ => alloc_old w.drew _ b hb, fun _ h => h.elim, fun b k hD => ⟨hD, World.cell?_alloc_lt w.drew _ _ (R.wf.lt hD)⟩, fun b k hD hnD => absurd hD hnD, R.nil⟩
  refine hK w.heap.size nc r2 (newB_size R) R.ext.size G _ _ (R.newArr hn (w1 := w.drew) rfl T' (E := E) ?_ ?_ ?_ ?_)
  · intro e he
    rcases List.mem_append.1 he with he | he
    · rcases List.mem_append.1 he with he | he
      · exact hE1 e (List.mem_of_mem_take he)
      · exact hE2 e he
    · rw [(List.mem_replicate.1 he).2]; exact hzl
  · intro e he d hd
    rcases List.mem_append.1 he with he | he
    · rcases List.mem_append.1 he with he | he
      · have he := List.mem_of_mem_take he
        obtain ⟨i, hi⟩ := List.mem_iff_getElem?.1 he
        obtain ⟨j, hj⟩ := List.mem_iff_getElem?.1 hd
        exact (k3 (i * E + j) (.v d) (by simp only [arrRow, List.getElem?_map, flatten_at hE1 hi hj, Option.map_some])).1
      · exact c2 e he d hd
    · rw [(List.mem_replicate.1 he).2] at hd
      exact (cellB_iff zd).1 hzc d hd
  · rw [r3]
    simp only [List.length_append, List.length_take, List.length_replicate]
    exact Nat.mul_le_mul_right _ (by omega)
  · intro i j e dd hi hj
    have hl1 : (full.take n).length = n := by rw [List.length_take, Nat.min_eq_left (by omega)]
    rw [List.append_assoc] at hi
    rcases Nat.lt_or_ge i n with h | h
    · rw [List.getElem?_append_left (by omega), List.getElem?_take_of_lt h] at hi
      have hjE : j < E := by rw [← hE1 e (List.mem_of_getElem? hi)]; exact (List.getElem?_eq_some_iff.1 hj).1
      have hlt := lt_mul h hjE
      obtain ⟨-, v, q1, q2⟩ := k3 (i * E + j) (.v dd) (by simp only [arrRow, List.getElem?_map, flatten_at hE1 hi hj, Option.map_some])
      refine ⟨v, ?_, q2⟩
      rw [r4 _ hlt, arr_get _ _ _ hlt, q1]
      rfl
    · rw [List.getElem?_append_right (by omega), hl1] at hi
      rcases Nat.lt_or_ge (i - n) zs.length with h' | h'
      · rw [List.getElem?_append_left h'] at hi
        have hjE : j < E := by rw [← hE2 e (List.mem_of_getElem? hi)]; exact (List.getElem?_eq_some_iff.1 hj).1
        have hlt := lt_mul h' hjE
        refine ⟨_, ?_, g1 _ _ _ _ hi hj⟩
        have e1 : i * E + j = n * E + ((i - n) * E + j) := by rw [← Nat.add_assoc, ← Nat.add_mul]; congr 2; omega
        rw [e1, r5 _ hlt, arr_get _ _ _ hlt]
      · rw [List.getElem?_append_right h'] at hi
        obtain ⟨hi1, hi2⟩ : e = zd ∧ i - n - zs.length < nc - (n + zs.length) := by
          have hm := List.mem_of_getElem? hi
          have hlt := (List.getElem?_eq_some_iff.1 hi).1
          simp only [List.length_replicate] at hlt
          exact ⟨(List.mem_replicate.1 hm).2, hlt⟩
        subst hi1
        obtain ⟨v, q1, q2⟩ := r6 G w R.nil (i - n - zs.length) j dd hi2 hj
        refine ⟨v, ?_, q2⟩
        rw [show n + zs.length + (i - n - zs.length) = i from by omega] at q1
        exact q1

theorem vcK_appendR {esc : List Nat} {ops : Array Oper} {l : List Oper} {K : St → Prop} {d : Tmp} {x y : Operand} {T T2 ty : TypeId} {pos : String} {af : Array Edge} {q : Option (Prop × St)}
    {E B b n cap : Nat} {full zs : List (List DV)} {zd : List DV} (hx : evl X (get s) x = some (.v (rawS b n cap))) (hy : (evl X (get s) y).bind slOf = some zs) (hrow : get s (.heap b) = some (.row (arrRow full)))
    (he : elemZ X.P T = some (E, B)) (hz : zeroE X.P T = some zd) (hzc : cellB zd = true) (hB : 0 < B ∧ B ≤ 1024) (h2 : (elemT X.P T2).isSome = true) (hn : d < X.n)
    (hfl : full.length = cap) (hnc : n ≤ cap) (hbig : n + zs.length ≤ BIG) (hE1 : ∀ e ∈ full, e.length = E) (hE2 : ∀ e ∈ zs, e.length = E) (hq : q = none)
    (h1 : n + zs.length ≤ cap → vc X esc ops l (upd (upd s (.heap b) (.row (arrRow (full.take n ++ zs ++ full.drop (n + zs.length))))) (.slot d) (.one (.v (rawS b (n + zs.length) cap)))) K)
    (h3 : cap < n + zs.length → ∀ b' cap', n + zs.length ≤ cap' → newB b' s → X.w0.heap.size ≤ b' → vc X esc ops l (upd (upd s (.slot d) (.one (.v (rawS b' (n + zs.length) cap')))) (.heap b') (.row (arrRow (full.take n ++ zs ++ List.replicate (cap' - (n + zs.length)) zd)))) K) :
    vcK X esc ops l K ⟨some d, .call { callee := .builtin .append, args := #[x, y], argTypes := #[T, T2] }, ty, pos, af, none⟩ s q := by
  subst hq
  rcases Nat.lt_or_ge cap (n + zs.length) with h | h
  · intro m hm G a w R0
    obtain ⟨p1, p3⟩ := drop_cons hm
    simp only [List.length_cons, List.range'_succ, wpOpsIn, p1, Region.wanted, if_true]
    refine step_appendN (o := ⟨some d, .call { callee := .builtin .append, args := #[x, y], argTypes := #[T, T2] }, ty, pos, af, none⟩) rfl rfl hn he hB h2 hx hy hrow hfl hnc h hbig hE1 hE2 hz hzc R0 _ _ fun b' cap' hc hb hw G' a' w' R' => ?_
    exact vc_sound (h3 h b' cap' hc hb hw) (m + 1) p3 G' a' w' R'
  · exact VL_step rfl (step_appendF (o := ⟨some d, .call { callee := .builtin .append, args := #[x, y], argTypes := #[T, T2] }, ty, pos, af, none⟩) rfl rfl hn he h2 hx hy hrow hfl h hE1 hE2) (vc_sound (h1 h))

/-- a literal as a raw slice -/
theorem step_litX {o : Oper} {t len E B : Nat} {parts : Array (Nat × Operand)} (ho : o.op = .buildSlice t len parts) {d : Nat} (hd : o.dst = some d) (hn : d < X.n) (he : elemZ X.P t = some (E, B)) {els : List (List DV)}
    (h : litEls X (get s) E 0 parts.toList = some els) (hlen : els.length = len) (hb : len * E ≤ 16777216)
    {G : Gh} {a : Act} {w : World} (R : Rel X G s a w) (next : Act → World → Prop) (Q : Exit → Act → World → Prop)
    (hK : ∀ b, newB b s → X.w0.heap.size ≤ b → ∀ G' a' w', Rel X G' (upd (upd s (.slot d) (.one (.v (rawS b len len)))) (.heap b) (.row (arrRow els))) a' w' → next a' w') :
    o.wpIn X.F 0 X.P a w next Q := by
  obtain ⟨e, i, z, hu, hi, hz, hzs, his, hib⟩ := elemZ_run he
  subst hlen
  have hsz0 : ((Array.range (els.length * E)).map fun k => (if els.length * E = 0 then #[] else z.cells)[k % (if els.length * E = 0 then #[] else z.cells).size]!).size = els.length * E := by simp
  obtain ⟨q1, q2, q3, c', f1, f2, f3, f4⟩ := litEls_sound R E parts.toList 0 els ((Array.range (els.length * E)).map fun k => (if els.length * E = 0 then #[] else z.cells)[k % (if els.length * E = 0 then #[] else z.cells).size]!) h (by rw [hsz0, Nat.zero_add]; exact Nat.le_refl _)
  rw [hsz0] at f2
  have hrun : (Instr.buildSlice t els.length (parts.map fun (i, x) => (i, a.eval x))).run X.P w = .ok (.slice (some ⟨w.heap.size, 0, none⟩) els.length els.length) (w.alloc (.cells c' e)) := by
    have hne : ¬ (els.length * E > 2 ^ 24) := by omega
    have hf : Instr.fill (fun k => some (k * E, E)) ((Array.range (els.length * E)).map fun k => (if els.length * E = 0 then #[] else z.cells)[k % (if els.length * E = 0 then #[] else z.cells).size]!) ((parts.map fun (q : Nat × Operand) => (q.1, a.eval q.2)).toList) = some c' := by
      rw [Array.toList_map]; exact f1
    unfold Instr.buildSlice
    simp only [run_underlying hu, sizeOf, typeInfo, hi, his, Sem.run_bind, Sem.run_pure, run_program, Result.andThen_ok, hne, if_false]
    by_cases h0 : els.length * E = 0
    · simp only [if_pos h0] at hf ⊢
      simp only [Sem.run_bind, Sem.run_pure, Result.andThen_ok, hf, newRow, run_newObj]
      rfl
    · simp only [if_neg h0] at hf ⊢
      simp only [zeroValue, typeInfo, run_program, hi, hz, Sem.run_bind, Sem.run_pure, Result.andThen_ok, hf, newRow, run_newObj]
      rfl
  refine opIn (by intro c e; rw [ho] at e; cases e) ?_
  have hexec : (execOp a.eval o).run X.P w = .ok (.value (.slice (some ⟨w.heap.size, 0, none⟩) els.length els.length)) (w.alloc (.cells c' e)) := by
    simp only [execOp, ho, Sem.run_bind, hrun, Result.andThen_ok, Sem.run_pure]
  rw [hexec, upn_value, hd]
  have hp := put_tmps a (some d) (.slice (some ⟨w.heap.size, 0, none⟩) els.length els.length)
  have T' : Trans X G a w G (a.put (some d) (.slice (some ⟨w.heap.size, 0, none⟩) els.length els.length)) (w.alloc (.cells c' e)) (fun _ => False) := by
    refine ⟨hp.1, fun h => (h.heap fun b hb => alloc_old w _ b hb).put hp.2, rfl, rfl, rfl, by simp, fun b hb _ => alloc_old w _ b hb, fun _ h => h.elim, fun b k hD => ⟨hD, World.cell?_alloc_lt w _ _ (R.wf.lt hD)⟩, fun b k hD hnD => absurd hD hnD, R.nil⟩
  refine hK w.heap.size (newB_size R) R.ext.size G _ _ (R.newArr hn (w1 := w) rfl T' (E := E) q1 q2 (by rw [f2]; exact Nat.le_refl _) fun i j e dd hi hj => ?_)
  obtain ⟨v, hv, hr⟩ := f4 i j e dd hi hj
  rw [Nat.zero_add] at hv
  exact ⟨v, hv, hr⟩

theorem vcK_litX {esc : List Nat} {ops : Array Oper} {l : List Oper} {K : St → Prop} {d : Tmp} {t len : Nat} {parts : Array (Nat × Operand)} {ty : TypeId} {pos : String} {af : Array Edge} {q : Option (Prop × St)} {E B : Nat} {els : List (List DV)}
    (he : elemZ X.P t = some (E, B)) (h : litEls X (get s) E 0 parts.toList = some els) (hc : els.length = len ∧ len * E ≤ 16777216) (hn : d < X.n) (hq : q = none)
    (k : ∀ b, newB b s → X.w0.heap.size ≤ b → vc X esc ops l (upd (upd s (.slot d) (.one (.v (rawS b len len)))) (.heap b) (.row (arrRow els))) K) :
    vcK X esc ops l K ⟨some d, .buildSlice t len parts, ty, pos, af, none⟩ s q := by
  subst hq
  intro m hm G a w R0
  obtain ⟨p1, p3⟩ := drop_cons hm
  simp only [List.length_cons, List.range'_succ, wpOpsIn, p1, Region.wanted, if_true]
  refine step_litX (o := ⟨some d, .buildSlice t len parts, ty, pos, af, none⟩) rfl rfl hn he h hc.1 hc.2 R0 _ _ fun b hb hw G' a' w' R' => ?_
  exact vc_sound (k b hb hw) (m + 1) p3 G' a' w' R'
end
end Go.Proofs.YtmdjiajbnifjpaaDoor.Lift

/-
  Part Y of the small logic: a drawn region one of whose operations has several outcomes; appends to slices that are raw, or nil.
-/
namespace Go.Proofs.YtmdjiajbnifjpaaDoor.Lift
set_option linter.unusedSimpArgs false
set_option linter.unusedVariables false
set_option linter.unnecessarySimpa false
open Go
section
variable {X : Ctx} {s s0 : St} {k : List Item}

/-! a drawn region with one free operation -/
def vcdE (X : Ctx) (esc : List Nat) (ops : Array Oper) (s0 : St) (K : St → List Ev → Prop) : List Oper → St → List Ev → Prop
  | [], s, ev => chkB ops.toList s0 ev.reverse = true ∧ K s ev.reverse
  | o :: l, s, ev => o.guard = none ∧ vcdA X esc ops s0 l (fun _ => False) (vcdE X esc ops s0 K l) o ev s (fpOf X (get s) o.op)
theorem vcdE_nil {esc : List Nat} {ops : Array Oper} {K : St → List Ev → Prop} {ev : List Ev} : vcdE X esc ops s0 K [] s ev = (chkB ops.toList s0 ev.reverse = true ∧ K s ev.reverse) := by rw [vcdE]
theorem vcdE_op {esc : List Nat} {ops : Array Oper} {K : St → List Ev → Prop} {ev : List Ev} {l : List Oper} (d : Option Tmp) (op : Op) (ty : TypeId) (pos : String) (af : Array Edge) :
    vcdE X esc ops s0 K (⟨d, op, ty, pos, af, none⟩ :: l) s ev = vcdA X esc ops s0 l (fun _ => False) (vcdE X esc ops s0 K l) ⟨d, op, ty, pos, af, none⟩ ev s (fpOf X (get s) op) := by rw [vcdE]; simp
attribute [go_sem] vcdE_nil vcdE_op
/-- a place that the free operation leaves alone: what is read, what is written -/
def freeR (d : Nat) (a : Option Nat) : Loc → Prop
  | .slot n => n ≠ d
  | .heap h => a ≠ some h
  | _ => True
def freeW (d : Nat) : Loc → Prop
  | .slot n => n ≠ d
  | .heap _ => False
  | _ => True
def allL (p : Loc → Prop) : List Loc → Prop
  | [] => True
  | l :: r => p l ∧ allL p r
theorem allL_mem {p : Loc → Prop} {l : List Loc} (h : allL p l) : ∀ x ∈ l, p x := by
  induction l with
  | nil => intro x hx; cases hx
  | cons y r ih =>
    intro x hx
    rcases List.mem_cons.1 hx with rfl | hx
    · exact h.1
    · exact ih h.2 x hx
/-- all events but one leave the free operation alone -/
def evFree (d : Nat) (a : Option Nat) : Nat → List Ev → Prop
  | _, [] => True
  | 0, _ :: r => evFree' d a r
  | q + 1, x :: r => allL (freeR d a) x.fp ∧ allL (freeW d) (wrL x.e) ∧ evFree d a q r
where
  evFree' (d : Nat) (a : Option Nat) : List Ev → Prop
    | [] => True
    | x :: r => allL (freeR d a) x.fp ∧ allL (freeW d) (wrL x.e) ∧ evFree' d a r
theorem evFree_at {d : Nat} {a : Option Nat} : ∀ {q : Nat} {evs : List Ev}, evFree d a q evs → ∀ (j : Nat) (x : Ev), evs[j]? = some x → j ≠ q → (∀ l ∈ x.fp, freeR d a l) ∧ ∀ l ∈ wrL x.e, freeW d l
  | _, [], _, j, x, hx, _ => by simp at hx
  | 0, y :: r, h, j, x, hx, hne => by
    have key : ∀ {evs : List Ev}, evFree.evFree' d a evs → ∀ (j : Nat) (x : Ev), evs[j]? = some x → (∀ l ∈ x.fp, freeR d a l) ∧ ∀ l ∈ wrL x.e, freeW d l := by
      intro evs
      induction evs with
      | nil => intro _ j x hx; simp at hx
      | cons z t ih =>
        intro h j x hx
        cases j with
        | zero => simp at hx; subst hx; exact ⟨allL_mem h.1, allL_mem h.2.1⟩
        | succ j => exact ih h.2.2 j x (by simpa using hx)
    cases j with
    | zero => exact absurd rfl hne
    | succ j => exact key h j x (by simpa using hx)
  | q + 1, y :: r, h, j, x, hx, hne => by
    cases j with
    | zero => simp at hx; subst hx; exact ⟨allL_mem h.1, allL_mem h.2.1⟩
    | succ j => exact evFree_at h.2.2 j x (by simpa using hx) (by omega)

/-- what the free operation does: a slot, an object that goes, an object that comes -/
def delO (a : Option Nat) (s : St) : St := match a with | none => s | some b => del s (.heap b)
def effO (d : Nat) (a : Option Nat) (y : SV) (b : Nat) (cs : List SV) (s : St) : St := upd (upd (delO a s) (.slot d) (.one y)) (.heap b) (.row cs)
theorem get_delO (a : Option Nat) (s : St) (l : Loc) (h : ∀ b, a = some b → l ≠ .heap b) : get (delO a s) l = get s l := by
  cases a with
  | none => rfl
  | some b =>
    show get (del s (.heap b)) l = _
    rw [get_del, if_neg fun e => h b rfl e.symm]
theorem effO_ne {d : Nat} {a : Option Nat} {y : SV} {b : Nat} {cs : List SV} {s : St} {l : Loc} (h1 : l ≠ .slot d) (h2 : l ≠ .heap b) (h3 : ∀ b', a = some b' → l ≠ .heap b') : get (effO d a y b cs s) l = get s l := by
  unfold effO
  rw [get_upd, if_neg fun e => h2 e.symm, get_upd, if_neg fun e => h1 e.symm, get_delO _ _ _ h3]
theorem effO_eq {d : Nat} {a : Option Nat} {y : SV} {b : Nat} {cs : List SV} {s s' : St} {l : Loc} (h : get s l = get s' l ∨ l = .slot d ∨ l = .heap b ∨ ∃ b', a = some b' ∧ l = .heap b') : get (effO d a y b cs s) l = get (effO d a y b cs s') l := by
  unfold effO
  rw [get_upd, get_upd, get_upd, get_upd]
  by_cases h1 : Loc.heap b = l
  · rw [if_pos h1, if_pos h1]
  · rw [if_neg h1, if_neg h1]
    by_cases h2 : Loc.slot d = l
    · rw [if_pos h2, if_pos h2]
    · rw [if_neg h2, if_neg h2]
      cases a with
      | none =>
        rcases h with h | h | h | ⟨b', h, -⟩
        · exact h
        · exact absurd h.symm h2
        · exact absurd h.symm h1
        · cases h
      | some b0 =>
        show get (del s (.heap b0)) l = get (del s' (.heap b0)) l
        rw [get_del, get_del]
        by_cases h3 : Loc.heap b0 = l
        · rw [if_pos h3, if_pos h3]
        · rw [if_neg h3, if_neg h3]
          rcases h with h | h | h | ⟨b', h, h4⟩
          · exact h
          · exact absurd h.symm h2
          · exact absurd h.symm h1
          · cases h; exact absurd h4.symm h3

/-- a new object's block: no other object's -/
def newA (b : Nat) (a : Option Nat) (s : St) : Prop := ∀ h, a ≠ some h → get s (.heap h) ≠ none → b ≠ h

/-- the step of the free operation, wherever its places are as told -/
def FreeStep (X : Ctx) (o : Oper) (s1 : St) (d : Nat) (a : Option Nat) (P : SV → Nat → List SV → Prop) : Prop :=
  ∀ s, leS s1 s → ∀ (G : Gh) (ac : Act) (w : World), Rel X G s ac w → ∀ (next : Act → World → Prop) (Q : Exit → Act → World → Prop),
    (∀ y b cs, P y b cs → newA b a s → ∀ G' a' w', Rel X G' (effO d a y b cs s) a' w' → next a' w') → o.wpIn X.F 0 X.P ac w next Q

section
variable {ops ops' : Array Oper} {m q : Nat} {T0 : List Nat} {evs : List Ev} {K : St → Prop} {d : Nat} {a0 : Option Nat}

theorem heaps_sel (hw : ∀ (j : Nat) (x : Ev), evs[j]? = some x → ∀ l ∈ wrL x.e, ∀ h, l ≠ .heap h) (L : Nat → Bool) (h : Nat) : get (sel L 0 evs s0) (.heap h) = get s0 (.heap h) := by
  rw [← sel_none (L := fun _ => false) evs 0 s0 fun _ _ => rfl]
  refine sel_diff evs 0 _ _ ?_ fun j x hj _ hm => hw j x hj _ hm h rfl
  rw [sel_none _ _ _ fun _ _ => rfl]

/-- behind the free operation -/
theorem draw_F2 (hsz' : ops'.size = m) (hget : ∀ i, i < m → i ≠ q → ops'[i]? = ops[i]?) (haf : ∀ o o' : Oper, ops[q]? = some o → ops'[q]? = some o' → o'.after = o.after) (hqm : q < m) (hmn : m ≤ ops.size) (hrun : RunL X ops' ops'.toList s0 evs) (hg : ∀ i o, i < m → i ≠ q → ops[i]? = some o → o.guard = none) (hchk : chkB ops'.toList s0 evs = true)
    (hback0 : backB 0 ops.toList = true) (hfix0 : fixB T0 T0 ops.toList = true) (htail : ∀ j, m ≤ j → j < ops.size → ∀ i, i < j → (T0.getD j 0).testBit i = true)
    (hfree : evFree d a0 q evs) (hqe : ∀ x, evs[q]? = some x → ∀ l ∈ wrL x.e, l = .slot d) {y : SV} {b : Nat} {cs : List SV} (hnew : newA b a0 s0) (hfr0 : ∀ n s, fresh n s = true → fresh n (effO d a0 y b cs s) = true) (hK : VL X ops (ops.toList.drop m) (effO d a0 y b cs (appAll s0 evs)) K) :
    ∀ (fuel : Nat) (listed : Array Bool) (G : Gh) (a : Act) (w : World), listed.size = ops.size → Closed ops (Lof listed) → (∀ j, m ≤ j → Lof listed j = false) → Lof listed q = true → (left m listed).length + (ops.size - m) ≤ fuel → Rel X G (effO d a0 y b cs (sel (Lof listed) 0 evs s0)) a w →
      wpAnyIn X.F 0 X.P .any ops (Nrm X K) fuel listed a w := by
  simp only [chkB, Bool.and_eq_true] at hchk
  obtain ⟨⟨⟨hback, hfix⟩, hfr⟩, hp⟩ := hchk
  generalize tabGo ops'.toList [] = T at *
  have hlen : evs.length = m := by have := RunL_length hrun; simp at this; omega
  have hw : ∀ (j : Nat) (x : Ev), evs[j]? = some x → ∀ l ∈ wrL x.e, ∀ h, l ≠ .heap h := by
    intro j x hj l hl h e
    by_cases hjq : j = q
    · subst hjq
      have := hqe x hj l hl
      rw [this] at e
      cases e
    · have := (evFree_at hfree j x hj hjq).2 l hl
      rw [e] at this
      exact this
  have hdone : ∀ (listed : Array Bool) (G : Gh) (a : Act) (w : World), (∀ j, j < m → Lof listed j = true) → Rel X G (effO d a0 y b cs (sel (Lof listed) 0 evs s0)) a w → Rel X G (effO d a0 y b cs (appAll s0 evs)) a w := by
    intro listed G a w hall R
    refine R.congr fun l => effO_eq (.inl ?_)
    rw [← sel_all 0]
    refine sel_diff evs 0 _ _ rfl fun j ev hj hne => ?_
    have hj' : j < m := by rw [← hlen]; exact (List.getElem?_eq_some_iff.1 hj).1
    exact absurd (hall j hj').symm (by simpa using hne)
  intro fuel
  induction fuel with
  | zero =>
    intro listed G a w hsz hcl htl hLq hle R
    have hm0 : m = ops.size := by omega
    have hall : ∀ j, j < m → Lof listed j = true := by
      intro j hj
      cases hq : Lof listed j with
      | true => rfl
      | false =>
        have hm : j ∈ left m listed := by simp [left, hj, hq]
        have := List.length_pos_of_mem hm
        omega
    refine seq_any hback0 hfix0 htail 0 m 0 listed a w (by omega) (Nat.le_refl _) hsz (fun i hi => by rw [hall i (by omega)]; exact (decide_eq_true (by omega)).symm) (Nat.le_refl _) ?_
    have := hK m rfl G a w (hdone listed G a w hall R)
    have hd : (ops.toList.drop m).length = 0 := by simp; omega
    rw [hd] at this
    exact this
  | succ fuel ih =>
    intro listed G a w hsz hcl htl hLq hle R
    by_cases hall : ∀ j, j < m → Lof listed j = true
    · have hw := hK m rfl G a w (hdone listed G a w hall R)
      have hd : (ops.toList.drop m).length = ops.size - m := by simp
      rw [hd] at hw
      refine seq_any hback0 hfix0 htail (ops.size - m) m (fuel + 1) listed a w (by omega) (Nat.le_refl _) hsz (fun i hi => ?_) (by omega) hw
      by_cases him : i < m
      · rw [hall i him]; exact (decide_eq_true him).symm
      · rw [htl i (by omega)]; exact (decide_eq_false him).symm
    have hex : ∃ j, j < m ∧ Lof listed j = false := by
      by_cases h : ∃ j, j < m ∧ Lof listed j = false
      · exact h
      · exact absurd (fun j hj => by
          cases hq : Lof listed j with
          | true => rfl
          | false => exact absurd ⟨j, hj, hq⟩ h) hall
    have hstuck : Region.ready .any ops listed = [] → ∀ j, j < m → Lof listed j = true := by
      intro hr j
      induction j using Nat.strongRecOn with
      | _ j ihj =>
        intro hj
        cases hq : Lof listed j with
        | true => rfl
        | false =>
          have hjo : j < ops.size := by omega
          have : j ∈ Region.ready .any ops listed := by
            rw [mem_ready]
            refine ⟨by rw [getD_tf (by omega)]; exact hq, ops[j], Array.getElem?_eq_getElem hjo, fun e he hb => ?_⟩
            have hlt := backB_spec hback0 j ops[j] (by simp [hjo]) e he hb
            exact ihj e.on (by omega) (by omega)
          rw [hr] at this
          cases this
    refine ⟨fun hr => absurd (hstuck hr) hall, fun i hi => ?_⟩
    obtain ⟨h1, o, ho, hall1⟩ := mem_ready.1 hi
    have hio : i < ops.size := (Array.getElem?_eq_some_iff.1 ho).1
    have hil : i < listed.size := by omega
    rw [getD_tf hil] at h1
    have hall' : ∀ e ∈ o.after, Region.binds .any e = true → Lof listed e.on = true := hall1
    have him : i < m := by
      rcases Nat.lt_or_ge i m with h | h
      · exact h
      · exact absurd (fun j hj => anc_spec hback0 hfix0 hcl i o ho hall' (htail i h hio j (by omega))) hall
    have hiq : i ≠ q := fun e => by subst e; rw [hLq] at h1; cases h1
    have hcl' : Closed ops' (Lof listed) := by
      intro j o' hL ho' e he hb
      have hj : j < m := by have := (Array.getElem?_eq_some_iff.1 ho').1; omega
      by_cases hjq : j = q
      · subst hjq
        have h2 : ops[j]? = some ops[j] := Array.getElem?_eq_getElem (by omega)
        rw [haf _ _ h2 ho'] at he
        exact hcl j _ hL h2 e he hb
      · exact hcl j o' hL (by rw [← hget j hj hjq]; exact ho') e he hb
    have ho' : ops'[i]? = some o := by rw [hget i him hiq]; exact ho
    have hie : i < evs.length := by omega
    have hev : evs[i]? = some evs[i] := List.getElem?_eq_getElem hie
    have hstep := RunL_at 0 hrun i o evs[i] (by simpa using ho') hev
    have hfi := evFree_at hfree i _ hev hiq
    have hind1 : ∀ (j : Nat) (ev : Ev), evs[j]? = some ev → i < j → Lof listed j = true → apart evs[i] ev = true := by
      intro j ev hj hij hL
      have hjm : j < m := by rw [← hlen]; exact (List.getElem?_eq_some_iff.1 hj).1
      have hjo : j < ops'.size := by omega
      rcases (chkP_spec hp i j _ ev hij hev hj).2 with h | h
      · have := anc_spec hback hfix hcl' j ops'[j] (Array.getElem?_eq_getElem hjo) (fun e he hb => hcl' j _ hL (Array.getElem?_eq_getElem hjo) e he hb) (by simpa using h)
        rw [h1] at this; cases this
      · exact h
    have hind2 : ∀ (j : Nat) (ev : Ev), evs[j]? = some ev → j < i → Lof listed j = false → apart ev evs[i] = true := by
      intro j ev hj hij hL
      rcases (chkP_spec hp j i ev _ hij hj hev).2 with h | h
      · have := anc_spec hback hfix hcl' i o ho' hall' (by simpa using h)
        rw [hL] at this; cases this
      · exact h
    have hop : OpOK X ops' o (effO d a0 y b cs (sel (Lof listed) 0 evs s0)) (apply (effO d a0 y b cs (sel (Lof listed) 0 evs s0)) evs[i].e) := by
      refine hstep _ (fun l v hl => ?_) (fun n hn => ?_)
      · obtain ⟨hfp, hg⟩ := get_restr hl
        have hfl := hfi.1 l hfp
        rw [effO_ne (fun e => by subst e; exact hfl rfl) (fun e => by
          subst e
          rw [heaps_sel hw] at hg
          exact hnew b hfl (by rw [hg]; simp) rfl) (fun b' hb' e => by subst e; exact hfl hb')]
        rw [← hg]
        refine sel_diff evs 0 _ _ rfl fun j ev hj hne hw => ?_
        simp only [Nat.zero_add] at hne
        by_cases hij : j < i
        · cases hq : Lof listed j with
          | true => rw [hq] at hne; simp [hij] at hne
          | false =>
            have := hind2 j ev hj hij hq
            simp only [apart, Bool.and_eq_true, disL_iff] at this
            exact this.1.1.1 l hw hfp
        · cases hq : Lof listed j with
          | false => rw [hq] at hne; simp [hij] at hne
          | true =>
            have hne' : j ≠ i := fun e => by rw [e, h1] at hq; cases hq
            have := hind1 j ev hj (by omega) hq
            simp only [apart, Bool.and_eq_true, disL_iff] at this
            exact this.1.1.2 l hw hfp
      · refine hfr0 n _ (sel_fresh evs 0 s0 (chkF_spec hfr i _ hev n hn) fun j ev hj hL => ?_)
        simp only [Nat.zero_add] at hL
        have hne' : j ≠ i := fun e => by rw [e, h1] at hL; cases hL
        by_cases hij : j < i
        · exact (chkP_spec hp j i ev _ hij hj hev).1 n hn
        · have := hind1 j ev hj (by omega) hL
          simp only [apart, Bool.and_eq_true, allN_iff] at this
          simpa using this.2 n hn
    have hnext : ∀ G' a' w', Rel X G' (apply (effO d a0 y b cs (sel (Lof listed) 0 evs s0)) evs[i].e) a' w' → wpAnyIn X.F 0 X.P .any ops (Nrm X K) fuel (listed.setIfInBounds i true) a' w' := by
      intro G' a' w' R'
      refine ih _ G' a' w' (by simpa using hsz) ?_ ?_ ?_ ?_ ?_
      · rw [Lof_set hil]
        intro j o' hL hoj e he hb
        simp only [Bool.or_eq_true, beq_iff_eq] at hL ⊢
        rcases hL with rfl | hL
        · rw [ho] at hoj; cases hoj
          exact .inr (hall' e he hb)
        · exact .inr (hcl j o' hL hoj e he hb)
      · intro j hj
        rw [Lof_set hil]
        show (j == i || Lof listed j) = false
        rw [htl j hj, Bool.or_false]
        simp; omega
      · rw [Lof_set hil]
        show (q == i || Lof listed q) = true
        rw [hLq, Bool.or_true]
      · have := left_set (n := m) hil him h1
        omega
      · rw [Lof_set hil]
        refine R'.congr fun l => ?_
        have hadd : get (sel (fun j => j == i || Lof listed j) 0 evs s0) l = get (apply (sel (Lof listed) 0 evs s0) evs[i].e) l := sel_add h1 evs 0 s0 (Nat.zero_le _) hev fun j ev hj hlt hL hw => by
          simp only [Nat.zero_add] at hlt hL
          have := hind1 j ev hj hlt hL
          simp only [apart, Bool.and_eq_true, disL_iff] at this
          exact this.1.2 l hw
        by_cases hl : l = .slot d ∨ l = .heap b ∨ ∃ b', a0 = some b' ∧ l = .heap b'
        · have hnw : l ∉ wrL evs[i].e := by
            intro hm
            have hfw := hfi.2 l hm
            rcases hl with rfl | rfl | ⟨b', -, rfl⟩
            · exact hfw rfl
            · exact hfw
            · exact hfw
          rw [get_apply_ne hnw]
          exact effO_eq (.inr hl)
        · have h3 := not_or.1 hl
          have h4 := not_or.1 h3.2
          have h5 : ∀ s : St, get (effO d a0 y b cs s) l = get s l := fun s => effO_ne h3.1 h4.1 fun b' hb' e => h4.2 ⟨b', hb', e⟩
          rw [h5, hadd, get_apply, get_apply, h5]
    have hgn : o.guard = none := hg i o him hiq ho
    have := hop G a w R _ (Nrm X K) hnext
    unfold wpOpIn
    simp only [ho]
    have hw : ∀ y, Region.wanted o y = true := fun y => by simp [Region.wanted, hgn]
    simp only [hw, if_true] at this ⊢
    exact this

/-- up to the free operation -/
theorem draw_F1 (hsz' : ops'.size = m) (hget : ∀ i, i < m → i ≠ q → ops'[i]? = ops[i]?) (haf : ∀ o o' : Oper, ops[q]? = some o → ops'[q]? = some o' → o'.after = o.after) (hqm : q < m) (hmn : m ≤ ops.size) (hrun : RunL X ops' ops'.toList s0 evs) (hg : ∀ i o, i < m → ops[i]? = some o → o.guard = none) (hchk : chkB ops'.toList s0 evs = true)
    (hback0 : backB 0 ops.toList = true) (hfix0 : fixB T0 T0 ops.toList = true) (htail : ∀ j, m ≤ j → j < ops.size → ∀ i, i < j → (T0.getD j 0).testBit i = true)
    (hfree : evFree d a0 q evs) (hqe : ∀ x, evs[q]? = some x → ∀ l ∈ wrL x.e, l = .slot d) {oq : Oper} (hoq : ops[q]? = some oq) {evq : Ev} (hevq : evs[q]? = some evq) {P : SV → Nat → List SV → Prop} (hstepq : FreeStep X oq (restr (sel (fun j => decide (j < 0 + q)) 0 evs s0) evq.fp) d a0 P)
    (hP : ∀ y b cs, P y b cs → newA b a0 s0 → (∀ n s, fresh n s = true → fresh n (effO d a0 y b cs s) = true) ∧ VL X ops (ops.toList.drop m) (effO d a0 y b cs (appAll s0 evs)) K) :
    ∀ (fuel : Nat) (listed : Array Bool) (G : Gh) (a : Act) (w : World), listed.size = ops.size → Closed ops (Lof listed) → (∀ j, m ≤ j → Lof listed j = false) → Lof listed q = false → (left m listed).length + (ops.size - m) ≤ fuel → Rel X G (sel (Lof listed) 0 evs s0) a w →
      wpAnyIn X.F 0 X.P .any ops (Nrm X K) fuel listed a w := by
  have hF2 := fun (y : SV) (b : Nat) (cs : List SV) (hp : P y b cs) (hn : newA b a0 s0) => draw_F2 (y := y) (b := b) (cs := cs) (K := K) hsz' hget haf hqm hmn hrun (fun i o h1 h2 h3 => hg i o h1 h3) hchk hback0 hfix0 htail hfree hqe hn (hP y b cs hp hn).1 (hP y b cs hp hn).2
  simp only [chkB, Bool.and_eq_true] at hchk
  obtain ⟨⟨⟨hback, hfix⟩, hfr⟩, hp⟩ := hchk
  generalize tabGo ops'.toList [] = T at *
  have hlen : evs.length = m := by have := RunL_length hrun; simp at this; omega
  have hw : ∀ (j : Nat) (x : Ev), evs[j]? = some x → ∀ l ∈ wrL x.e, ∀ h, l ≠ .heap h := by
    intro j x hj l hl h e
    by_cases hjq : j = q
    · subst hjq
      have := hqe x hj l hl
      rw [this] at e
      cases e
    · have := (evFree_at hfree j x hj hjq).2 l hl
      rw [e] at this
      exact this
  intro fuel
  induction fuel with
  | zero =>
    intro listed G a w hsz hcl htl hLq hle R
    have hm : q ∈ left m listed := by simp [left, hqm, hLq]
    have := List.length_pos_of_mem hm
    omega
  | succ fuel ih =>
    intro listed G a w hsz hcl htl hLq hle R
    have hall : ¬ ∀ j, j < m → Lof listed j = true := fun h => by have := h q hqm; rw [hLq] at this; cases this
    have hstuck : Region.ready .any ops listed = [] → ∀ j, j < m → Lof listed j = true := by
      intro hr j
      induction j using Nat.strongRecOn with
      | _ j ihj =>
        intro hj
        cases hq : Lof listed j with
        | true => rfl
        | false =>
          have hjo : j < ops.size := by omega
          have : j ∈ Region.ready .any ops listed := by
            rw [mem_ready]
            refine ⟨by rw [getD_tf (by omega)]; exact hq, ops[j], Array.getElem?_eq_getElem hjo, fun e he hb => ?_⟩
            have hlt := backB_spec hback0 j ops[j] (by simp [hjo]) e he hb
            exact ihj e.on (by omega) (by omega)
          rw [hr] at this
          cases this
    refine ⟨fun hr => absurd (hstuck hr) hall, fun i hi => ?_⟩
    obtain ⟨h1, o, ho, hall1⟩ := mem_ready.1 hi
    have hio : i < ops.size := (Array.getElem?_eq_some_iff.1 ho).1
    have hil : i < listed.size := by omega
    rw [getD_tf hil] at h1
    have hall' : ∀ e ∈ o.after, Region.binds .any e = true → Lof listed e.on = true := hall1
    have him : i < m := by
      rcases Nat.lt_or_ge i m with h | h
      · exact h
      · exact absurd (fun j hj => anc_spec hback0 hfix0 hcl i o ho hall' (htail i h hio j (by omega))) hall
    have hcl' : Closed ops' (Lof listed) := by
      intro j o' hL ho' e he hb
      have hj : j < m := by have := (Array.getElem?_eq_some_iff.1 ho').1; omega
      by_cases hjq : j = q
      · subst hjq
        rw [hLq] at hL; cases hL
      · exact hcl j o' hL (by rw [← hget j hj hjq]; exact ho') e he hb
    have hclu : Closed ops (Lof (listed.setIfInBounds i true)) := by
      rw [Lof_set hil]
      intro j o' hL hoj e he hb
      simp only [Bool.or_eq_true, beq_iff_eq] at hL ⊢
      rcases hL with rfl | hL
      · rw [ho] at hoj; cases hoj
        exact .inr (hall' e he hb)
      · exact .inr (hcl j o' hL hoj e he hb)
    have htlu : ∀ j, m ≤ j → Lof (listed.setIfInBounds i true) j = false := by
      intro j hj
      rw [Lof_set hil]
      show (j == i || Lof listed j) = false
      rw [htl j hj, Bool.or_false]
      simp; omega
    have hie : i < evs.length := by omega
    obtain ⟨o', ho', hae⟩ : ∃ o', ops'[i]? = some o' ∧ o'.after = o.after := by
      by_cases hiq : i = q
      · subst hiq
        have h2 : ops'[i]? = some ops'[i] := Array.getElem?_eq_getElem (by omega)
        exact ⟨_, h2, haf _ _ ho h2⟩
      · exact ⟨o, by rw [hget i him hiq]; exact ho, rfl⟩
    have hind1 : ∀ (j : Nat) (ev : Ev), evs[j]? = some ev → i < j → Lof listed j = true → apart evs[i] ev = true := by
      intro j ev hj hij hL
      have hjm : j < m := by rw [← hlen]; exact (List.getElem?_eq_some_iff.1 hj).1
      have hjo : j < ops'.size := by omega
      rcases (chkP_spec hp i j _ ev hij (List.getElem?_eq_getElem hie) hj).2 with h | h
      · have := anc_spec hback hfix hcl' j ops'[j] (Array.getElem?_eq_getElem hjo) (fun e he hb => hcl' j _ hL (Array.getElem?_eq_getElem hjo) e he hb) (by simpa using h)
        rw [h1] at this; cases this
      · exact h
    have hind2 : ∀ (j : Nat) (ev : Ev), evs[j]? = some ev → j < i → Lof listed j = false → apart ev evs[i] = true := by
      intro j ev hj hij hL
      rcases (chkP_spec hp j i ev _ hij hj (List.getElem?_eq_getElem hie)).2 with h | h
      · have := anc_spec hback hfix hcl' i o' ho' (by rw [hae]; exact hall') (by simpa using h)
        rw [hL] at this; cases this
      · exact h
    have hfpk : ∀ l v, get (restr (sel (fun j => decide (j < 0 + i)) 0 evs s0) evs[i].fp) l = some v → get (sel (Lof listed) 0 evs s0) l = some v := by
      intro l v hl
      obtain ⟨hfp, hg⟩ := get_restr hl
      rw [← hg]
      refine sel_diff evs 0 _ _ rfl fun j ev hj hne hw => ?_
      simp only [Nat.zero_add] at hne
      by_cases hij : j < i
      · cases hq : Lof listed j with
        | true => rw [hq] at hne; simp [hij] at hne
        | false =>
          have := hind2 j ev hj hij hq
          simp only [apart, Bool.and_eq_true, disL_iff] at this
          exact this.1.1.1 l hw hfp
      · cases hq : Lof listed j with
        | false => rw [hq] at hne; simp [hij] at hne
        | true =>
          have hne' : j ≠ i := fun e => by rw [e, h1] at hq; cases hq
          have := hind1 j ev hj (by omega) hq
          simp only [apart, Bool.and_eq_true, disL_iff] at this
          exact this.1.1.2 l hw hfp
    have hadd : ∀ l, get (sel (fun j => j == i || Lof listed j) 0 evs s0) l = get (apply (sel (Lof listed) 0 evs s0) evs[i].e) l := fun l => sel_add h1 evs 0 s0 (Nat.zero_le _) (List.getElem?_eq_getElem hie) fun j ev hj hlt hL hw => by
      simp only [Nat.zero_add] at hlt hL
      have := hind1 j ev hj hlt hL
      simp only [apart, Bool.and_eq_true, disL_iff] at this
      exact this.1.2 l hw
    have hgn : o.guard = none := hg i o him ho
    have hwt : ∀ y, Region.wanted o y = true := fun y => by simp [Region.wanted, hgn]
    have hlft := left_set (n := m) hil him h1
    unfold wpOpIn
    simp only [ho, hwt, if_true]
    by_cases hiq : i = q
    · subst hiq
      rw [ho] at hoq
      cases hoq
      rw [List.getElem?_eq_getElem hie] at hevq
      cases hevq
      refine hstepq _ hfpk G a w R _ (Nrm X K) fun y b cs hpb hn G' a' w' R' => ?_
      have hn0 : newA b a0 s0 := fun h hne hg => hn h hne (by rw [heaps_sel hw]; exact hg)
      refine hF2 y b cs hpb hn0 fuel _ G' a' w' (by simpa using hsz) hclu htlu (by rw [Lof_set hil]; simp) (by omega) ?_
      rw [Lof_set hil]
      refine R'.congr fun l => effO_eq ?_
      rw [hadd]
      by_cases hl : l ∈ wrL evs[i].e
      · exact .inr (.inl (hqe _ (List.getElem?_eq_getElem hie) l hl))
      · exact .inl (get_apply_ne hl)
    · have ho2 : ops'[i]? = some o := by rw [hget i him hiq]; exact ho
      have hstep := RunL_at 0 hrun i o evs[i] (by simpa using ho2) (List.getElem?_eq_getElem hie)
      have hop : OpOK X ops' o (sel (Lof listed) 0 evs s0) (apply (sel (Lof listed) 0 evs s0) evs[i].e) := by
        refine hstep _ hfpk (fun n hn => ?_)
        refine sel_fresh evs 0 s0 (chkF_spec hfr i _ (List.getElem?_eq_getElem hie) n hn) fun j ev hj hL => ?_
        simp only [Nat.zero_add] at hL
        have hne' : j ≠ i := fun e => by rw [e, h1] at hL; cases hL
        by_cases hij : j < i
        · exact (chkP_spec hp j i ev _ hij hj (List.getElem?_eq_getElem hie)).1 n hn
        · have := hind1 j ev hj (by omega) hL
          simp only [apart, Bool.and_eq_true, allN_iff] at this
          simpa using this.2 n hn
      have hnext : ∀ G' a' w', Rel X G' (apply (sel (Lof listed) 0 evs s0) evs[i].e) a' w' → wpAnyIn X.F 0 X.P .any ops (Nrm X K) fuel (listed.setIfInBounds i true) a' w' := by
        intro G' a' w' R'
        refine ih _ G' a' w' (by simpa using hsz) hclu htlu ?_ (by omega) ?_
        · rw [Lof_set hil]
          show (q == i || Lof listed q) = false
          rw [hLq, Bool.or_false]
          simpa using fun e => hiq e.symm
        · rw [Lof_set hil]
          exact R'.congr hadd
      have := hop G a w R _ (Nrm X K) hnext
      simp only [hwt, if_true] at this
      exact this
end

/-- what stands for the free operation while the others are told -/
def dumOp (d : Nat) (o : Oper) : Oper := ⟨some d, .assign (.const (.bool false)), o.type, o.pos, o.after, none⟩
def dumE (d : Nat) : Eff := [(.slot d, some (.one (.v (.prim (.bool false)))))]
def vcdF (X : Ctx) (esc : List Nat) (ops : Array Oper) (s0 : St) (oq : Oper) (d : Nat) (a0 : Option Nat) (P : SV → Nat → List SV → Prop) (K : St → List Ev → Prop) : List (Option Oper) → St → List Ev → Prop
  | [], s, ev => chkB ops.toList s0 ev.reverse = true ∧ K s ev.reverse
  | some o :: l, s, ev => o.guard = none ∧ vcdA X esc ops s0 [] (fun _ => False) (vcdF X esc ops s0 oq d a0 P K l) o ev s (fpOf X (get s) o.op)
  | none :: l, s, ev => ∃ fp, FreeStep X oq (restr s fp) d a0 P ∧ vcdF X esc ops s0 oq d a0 P K l (upd s (.slot d) (.one (.v (.prim (.bool false))))) (⟨fp, dumE d, []⟩ :: ev)
theorem vcdF_nil {esc : List Nat} {ops : Array Oper} {oq : Oper} {d : Nat} {a0 : Option Nat} {P : SV → Nat → List SV → Prop} {K : St → List Ev → Prop} {ev : List Ev} : vcdF X esc ops s0 oq d a0 P K [] s ev = (chkB ops.toList s0 ev.reverse = true ∧ K s ev.reverse) := by rw [vcdF]
theorem vcdF_op {esc : List Nat} {ops : Array Oper} {oq : Oper} {d0 : Nat} {a0 : Option Nat} {P : SV → Nat → List SV → Prop} {K : St → List Ev → Prop} {ev : List Ev} {l : List (Option Oper)} (d : Option Tmp) (op : Op) (ty : TypeId) (pos : String) (af : Array Edge) :
    vcdF X esc ops s0 oq d0 a0 P K (some ⟨d, op, ty, pos, af, none⟩ :: l) s ev = vcdA X esc ops s0 [] (fun _ => False) (vcdF X esc ops s0 oq d0 a0 P K l) ⟨d, op, ty, pos, af, none⟩ ev s (fpOf X (get s) op) := by rw [vcdF]; simp
attribute [go_sem] vcdF_nil vcdF_op
theorem vcdF_free {esc : List Nat} {ops : Array Oper} {oq : Oper} {d : Nat} {a0 : Option Nat} {P : SV → Nat → List SV → Prop} {K : St → List Ev → Prop} {ev : List Ev} {l : List (Option Oper)} (fp : List Loc) (h1 : FreeStep X oq (restr s fp) d a0 P)
    (h2 : vcdF X esc ops s0 oq d a0 P K l (upd s (.slot d) (.one (.v (.prim (.bool false))))) (⟨fp, dumE d, []⟩ :: ev)) : vcdF X esc ops s0 oq d a0 P K (none :: l) s ev := by rw [vcdF]; exact ⟨fp, h1, h2⟩
theorem dum_step {ops : Array Oper} {d : Nat} (hd : d < X.n) (o : Oper) (s1 : St) : LocStep X ops (dumOp d o) s1 (dumE d) [] := fun s hs _ => opOK_of (.inl rfl) (step_pval (o := dumOp d o) (c := True) (y := .v (.prim (.bool false))) rfl trivial rfl hd)
theorem vcdF_sound {esc : List Nat} {ops : Array Oper} {oq : Oper} {d : Nat} {a0 : Option Nat} {P : SV → Nat → List SV → Prop} {K : St → List Ev → Prop} (hd : d < X.n) : ∀ {l : List (Option Oper)} {s : St} {ev : List Ev}, vcdF X esc ops s0 oq d a0 P K l s ev →
    ∃ evs, RunL X ops (l.map fun o => o.getD (dumOp d oq)) s evs ∧ chkB ops.toList s0 (ev.reverse ++ evs) = true ∧ K (appAll s evs) (ev.reverse ++ evs) ∧
      ∀ (q : Nat) (x : Ev) (k : Nat), l[q]? = some none → evs[q]? = some x → x.e = dumE d ∧ FreeStep X oq (restr (sel (fun j => decide (j < k + q)) k evs s) x.fp) d a0 P
  | [], s, ev, h => ⟨[], trivial, by rw [List.append_nil]; exact h.1, by rw [List.append_nil]; exact h.2, fun q x k h => by simp at h⟩
  | some o :: l, s, ev, h => by
    unfold vcdF vcdA vcdB vcdC at h
    obtain ⟨hg, h⟩ := h
    split at h
    · rename_i c s1' hs
      obtain ⟨evs, h1, h2, h3, h4⟩ := vcdF_sound hd h.2
      refine ⟨⟨fpOf X (get s) o.op, effOf s1' (wrOp X (get (restr s (fpOf X (get s) o.op))) o.dst o.op), nmOf o.dst o.op⟩ :: evs, ⟨locStep_of hs h.1 (.inl hg), h1⟩, ?_, ?_, ?_⟩
      · simpa using h2
      · simpa [appAll] using h3
      · intro q x k hq hx
        cases q with
        | zero => simp at hq
        | succ q =>
          have := h4 q x (k + 1) (by simpa using hq) (by simpa using hx)
          refine ⟨this.1, ?_⟩
          simp only [sel]
          rw [if_pos (decide_eq_true (by omega)), show k + (q + 1) = k + 1 + q from by omega]
          exact this.2
    · obtain ⟨evs, -, -, h⟩ := h
      exact h.elim
  | none :: l, s, ev, h => by
    rw [vcdF] at h
    obtain ⟨fp, hf, h⟩ := h
    obtain ⟨evs, h1, h2, h3, h4⟩ := vcdF_sound hd h
    refine ⟨⟨fp, dumE d, []⟩ :: evs, ⟨dum_step hd oq _, h1⟩, ?_, ?_, ?_⟩
    · simpa using h2
    · have e : apply s (dumE d) = upd s (.slot d) (.one (.v (.prim (.bool false)))) := rfl
      simpa [appAll, e] using h3
    · intro q x k hq hx
      cases q with
      | zero =>
        simp at hx
        subst hx
        refine ⟨rfl, ?_⟩
        rw [sel_none _ _ _ fun j hj => decide_eq_false (by omega)]
        exact hf
      | succ q =>
        have := h4 q x (k + 1) (by simpa using hq) (by simpa using hx)
        refine ⟨this.1, ?_⟩
        simp only [sel]
        rw [if_pos (decide_eq_true (by omega)), show k + (q + 1) = k + 1 + q from by omega]
        exact this.2

def markO (q : Nat) : List Oper → List (Option Oper)
  | [] => []
  | o :: r => match q with
    | 0 => none :: r.map some
    | q + 1 => some o :: markO q r
theorem markO_spec (d : Nat) (oq : Oper) : ∀ (q : Nat) (l : List Oper), l[q]? = some oq → (markO q l)[q]? = some none ∧ ((markO q l).map fun o => o.getD (dumOp d oq)) = l.set q (dumOp d oq)
  | _, [], h => by simp at h
  | 0, o :: r, h => by simp [markO, Function.comp_def]
  | q + 1, o :: r, h => by
    have := markO_spec d oq q r (by simpa using h)
    simp [markO, this.1, this.2]

/-- A DRAWN REGION, ONE OF WHOSE OPERATIONS (q) HAS SEVERAL OUTCOMES; from place m on each operation waits for all others -/
theorem W_regF {id : Nat} {ops : Array Oper} {s : St} (hm : X.P.follows .mixedOrders = true) (m q : Nat) (oq : Oper) (hmn : m ≤ ops.size) (hqm : q < m) (hoq : ops[q]? = some oq) (hfull : tailOK ops.toList m = true) {d : Nat} (hd : d < X.n) (a0 : Option Nat) (P : SV → Nat → List SV → Prop)
    (hfr : ∀ y b cs, P y b cs → ∀ n s, fresh n s = true → fresh n (effO d a0 y b cs s) = true) (esc : List Nat)
    (h : ∀ K : St → Prop, (∀ s', W X k s' → K s') → vcdF X esc ((ops.toList.take m).set q (dumOp d oq)).toArray s oq d a0 P (fun s' evs => evFree d a0 q evs ∧ ∀ y b cs, P y b cs → newA b a0 s → VL X ops (ops.toList.drop m) (effO d a0 y b cs s') K) (markO q (ops.toList.take m)) s []) : W X (.code (.region id ops true) :: k) s := by
  intro G a w b cs hf hk hr R
  simp only [tailOK, Bool.and_eq_true, List.all_eq_true] at hfull
  obtain ⟨⟨⟨t1, t2⟩, t3⟩, t4⟩ := hfull
  obtain ⟨evs, h1, h2, ⟨h3, h5⟩, h4⟩ := vcdF_sound hd (h (fun s' => W X k s') (fun _ h => h))
  have htq : (ops.toList.take m)[q]? = some oq := by rw [List.getElem?_take_of_lt hqm]; simpa using hoq
  obtain ⟨m1, m2⟩ := markO_spec d oq q _ htq
  rw [m2] at h1
  rw [List.reverse_nil, List.nil_append] at h2 h3
  have hlen : evs.length = m := by
    have := RunL_length h1
    simp at this
    omega
  have hqe : evs[q]? = some (evs[q]'(by omega)) := List.getElem?_eq_getElem (by omega)
  obtain ⟨k1, k2⟩ := h4 q _ 0 m1 hqe
  have hany := draw_F1 (ops := ops) (ops' := ((ops.toList.take m).set q (dumOp d oq)).toArray) (s0 := s) (K := fun s' => W X k s') (m := m) (q := q) (T0 := tabGo ops.toList []) (evs := evs) (d := d) (a0 := a0) (by simp; omega)
    (fun i hi hne => by simp [List.getElem?_set, hne.symm, List.getElem?_take_of_lt hi])
    (fun o o' ho ho' => by
      rw [hoq] at ho; cases ho
      have hlt : q < (ops.toList.take m).length := by simp; omega
      simp only [List.getElem?_toArray, List.getElem?_set_self hlt, Option.some.injEq] at ho'
      rw [← ho']; rfl)
    hqm hmn h1
    (fun i o hi ho => by
      have := t4 o (by
        apply List.mem_of_getElem? (i := i)
        rw [List.getElem?_take_of_lt hi]; simpa using ho)
      cases hq : o.guard with
      | none => rfl
      | some _ => rw [hq] at this; cases this)
    h2 t1 t2 (tailB_spec (by simpa using t3)) h3 (fun x hx l hl => by
      rw [hqe] at hx; cases hx
      rw [k1] at hl
      simpa [dumE, wrL] using hl) hoq hqe k2 (fun y b cs hp hn => ⟨hfr y b cs hp, h5 y b cs hp hn⟩) ops.size (Array.replicate ops.size false) G a { w with drawn := w.drawn + 1 } (by simp) (fun j o hL => by simp [Lof, Array.getElem?_replicate] at hL; split at hL <;> simp at hL) (fun j _ => by simp only [Lof, Array.getD_eq_getD_getElem?, Array.getElem?_replicate]; split <;> rfl)
    (by simp only [Lof, Array.getD_eq_getD_getElem?, Array.getElem?_replicate]; split <;> rfl) (by
      have : (left m (Array.replicate ops.size false)).length ≤ m := Nat.le_trans (List.length_filter_le _ _) (by simp)
      omega) (by
      rw [sel_none _ _ _ (fun j _ => by simp only [Lof, Array.getD_eq_getD_getElem?, Array.getElem?_replicate]; split <;> rfl)]
      exact R.drawn _)
  obtain ⟨e', a', w', ⟨rfl, G', s', hK, R'⟩, harr⟩ := wpIn_region_any (F := X.F) (n := 0) hm hany b k cs hr trivial (roomF _)
  obtain ⟨w'', fr, q1, q2⟩ := hK G' a' w' b cs hf hk hr R'
  exact ⟨w'', fr, q1, Steps.trans (StepsIn.steps harr) q2⟩
end
end Go.Proofs.YtmdjiajbnifjpaaDoor.Lift

/-
  Part Z of the small logic: appends to slices that are raw or nil, told in one way; pieces of raw slices copied into data; maps from numbers.
-/
namespace Go.Proofs.YtmdjiajbnifjpaaDoor.Lift
set_option linter.unusedSimpArgs false
set_option linter.unusedVariables false
set_option linter.unnecessarySimpa false
open Go
section
variable {X : Ctx} {s s0 : St} {k : List Item}

/-! nil, told as a raw slice -/
def nlzSV : SV → SV
  | .own 0 [] => .v (.prim (.slice none 0 0))
  | x => x
def nlzRow : List SV → List SV
  | [] => []
  | x :: r => nlzSV x :: nlzRow r
def nlzLV : LV → LV
  | .one x => .one (nlzSV x)
  | .row cs => .row (nlzRow cs)
  | .tk E n => .tk E n
  | .ob r => .ob r
  | .mp l => .mp l
def nlz : St → St
  | [] => []
  | (l, v) :: r => (l, nlzLV v) :: nlz r
theorem get_nlz (s : St) (l : Loc) : get (nlz s) l = (get s l).map nlzLV := by
  induction s with
  | nil => rfl
  | cons p r ih =>
    obtain ⟨m, v⟩ := p
    simp only [nlz, get]
    split
    · rfl
    · exact ih
theorem nlzRow_get (cs : List SV) : (nlzRow cs).length = cs.length ∧ ∀ i : Nat, (nlzRow cs)[i]? = cs[i]?.map nlzSV := by
  induction cs with
  | nil => simp [nlzRow]
  | cons x r ih =>
    refine ⟨by simp [nlzRow, ih.1], fun i => ?_⟩
    cases i with
    | zero => simp [nlzRow]
    | succ i => simp [nlzRow, ih.2]
theorem nlzSV_sound {G : Gh} {w : World} (h0 : G.τ 0 = (none, 0)) {x : SV} {v : Value} (h : RSV G w x v) : RSV G w (nlzSV x) v := by
  unfold nlzSV
  split
  · obtain ⟨h1, -⟩ := h
    rw [h0] at h1
    rw [h1]
    exact .prim _ ⟨rfl, rfl⟩
  · exact h
theorem nlzSV_cell {x : SV} (h : x.isCell = true) : (nlzSV x).isCell = true := by
  unfold nlzSV
  split
  · rfl
  · exact h
theorem Rel.nlz {G : Gh} {a : Act} {w : World} (R : Rel X G s a w) : Rel X G (nlz s) a w := by
  have hblk : ∀ l v, blkOf G l (nlzLV v) = blkOf G l v := by
    intro l v
    cases v <;> cases l <;> rfl
  have hget : ∀ l v, get (Lift.nlz s) l = some v → ∃ v0, get s l = some v0 ∧ v = nlzLV v0 := by
    intro l v h
    rw [get_nlz] at h
    obtain ⟨v0, h1, h2⟩ := Option.map_eq_some_iff.1 h
    exact ⟨v0, h1, h2.symm⟩
  have hrow : ∀ k cs, BlkAt G w k cs → BlkAt G w k (nlzRow cs) := by
    rintro k cs ⟨c, e, h1, h2, h3⟩
    obtain ⟨f1, f2⟩ := nlzRow_get cs
    refine ⟨c, e, h1, by omega, fun i x hx => ?_⟩
    rw [f2] at hx
    obtain ⟨x0, h4, rfl⟩ := Option.map_eq_some_iff.1 hx
    obtain ⟨k1, v, k2, k3⟩ := h3 i x0 h4
    exact ⟨nlzSV_cell k1, v, k2, nlzSV_sound R.nil k3⟩
  refine ⟨R.size, R.defers, R.ext, R.wf, R.nil, fun l v hg => ?_, fun l v l' v' b' hg hg' hb hb' => ?_, fun l v b' hg hb => ?_, fun l v b' o hg hb ht => ?_⟩
  · obtain ⟨v0, h1, rfl⟩ := hget l v hg
    have hh := R.holds l v0 h1
    cases l <;> cases v0 <;> first | exact hh.elim | exact nlzSV_sound R.nil hh | exact hrow _ _ hh | exact hh
  · obtain ⟨v0, h1, rfl⟩ := hget l v hg
    obtain ⟨v1, h2, rfl⟩ := hget l' v' hg'
    rw [hblk] at hb hb'
    exact R.sep l v0 l' v1 b' h1 h2 hb hb'
  · obtain ⟨v0, h1, rfl⟩ := hget l v hg
    rw [hblk] at hb
    exact R.own l v0 b' h1 hb
  · obtain ⟨v0, h1, rfl⟩ := hget l v hg
    rw [hblk] at hb
    exact R.data l v0 b' o h1 hb ht
theorem W_nilraw {kk : List Item} (h : W X kk (nlz s)) : W X kk s := fun G a w b cs hf hk hr R => h G a w b cs hf hk hr R.nlz
/-! a slice that may be nil, raw -/
abbrev rawQ (q : Option Nat) (n cap : Nat) : DV := .prim (.slice (q.map fun b => ⟨b, 0, none⟩) n cap)

/-- what append makes of it -/
def AppP (X : Ctx) (q : Option Nat) (E n : Nat) (old zs : List (List DV)) : SV → Nat → List SV → Prop := fun y b cs =>
  ∃ cap full, y = .v (rawS b (n + zs.length) cap) ∧ cs = arrRow full ∧ full.length = cap ∧ (∀ e ∈ full, e.length = E) ∧ n + zs.length ≤ cap ∧ full.take (n + zs.length) = old.take n ++ zs ∧ (q = some b ∨ (X.w0.heap.size ≤ b ∧ ∀ b', q = some b' → b ≠ b'))

/-- append to a new block -/
theorem step_appendQ {o : Oper} {x y : Operand} {T T2 : TypeId} (ho : o.op = .call { callee := .builtin .append, args := #[x, y], argTypes := #[T, T2] }) {d : Nat} (hd : o.dst = some d) (hn : d < X.n)
    {E B : Nat} (he : elemZ X.P T = some (E, B)) (hB : 0 < B ∧ B ≤ 1024) (h2 : (elemT X.P T2).isSome = true) {q : Option Nat} {n cap : Nat} {full zs : List (List DV)} {zd : List DV} (hx : evl X (get s) x = some (.v (rawQ q n cap))) (hy : (evl X (get s) y).bind slOf = some zs)
    (hrow : ∀ b, q = some b → get s (.heap b) = some (.row (arrRow full))) (hq0 : q = none → n = 0) (hfl : full.length = cap) (hnc : n ≤ cap) (hnf : cap < n + zs.length) (hbig : n + zs.length ≤ BIG) (hE1 : ∀ e ∈ full, e.length = E) (hE2 : ∀ e ∈ zs, e.length = E) (hz : zeroE X.P T = some zd) (hzc : cellB zd = true)
    {G : Gh} {a : Act} {w : World} (R : Rel X G s a w) (next : Act → World → Prop) (Q : Exit → Act → World → Prop)
    (hK : ∀ b' cap', n + zs.length ≤ cap' → newB b' s → X.w0.heap.size ≤ b' → zd.length = E → ∀ G' a' w', Rel X G' (upd (upd s (.slot d) (.one (.v (rawS b' (n + zs.length) cap')))) (.heap b') (.row (arrRow (full.take n ++ zs ++ List.replicate (cap' - (n + zs.length)) zd)))) a' w' → next a' w') :
    o.wpIn X.F 0 X.P a w next Q := by
  have hv := (prim_of (evl_sound R hx)).1
  obtain ⟨qq, hqq, hq'⟩ := Option.bind_eq_some_iff.1 hy
  obtain ⟨yb, ycap, hyv, hyr, -⟩ := slOf_sound hq' (evl_sound R hqq)
  obtain ⟨c2, g, g1, g2, g3⟩ := sl_laid hyr hE2
  have hnE : n * E ≤ full.length * E := Nat.mul_le_mul_right _ (by omega)
  have hdr : ∀ w' : World, w'.heap = w.heap → (Builtin.firstCells E zs.length (a.eval y)).run X.P w' = .ok (arr g (zs.length * E)) w' := fun w' hw => by
    refine run_firstCells (D := G.D) ?_
    rcases g3 with h | ⟨b, o', cap, h, hc⟩
    · exact .inl h
    · exact .inr ⟨b, o', cap, h, fun k hk => by rw [cell_of_heap hw]; exact hc k hk⟩
  obtain ⟨g0, hdo, hold⟩ : ∃ g0 : Nat → Value, (∀ w' : World, w'.heap = w.heap → (Builtin.firstCells E n (.slice (q.map fun b => ⟨b, 0, none⟩) n cap)).run X.P w' = .ok (arr g0 (n * E)) w') ∧
      ∀ i j e dd, i < n → full[i]? = some e → e[j]? = some dd → dd.isCell = true ∧ RV G.D w dd (g0 (i * E + j)) := by
    cases q with
    | none =>
      have h0 := hq0 rfl
      subst h0
      refine ⟨fun _ => undef, fun w' _ => ?_, fun i j e dd hi => absurd hi (Nat.not_lt_zero _)⟩
      simp [Builtin.firstCells, arr]
    | some b =>
      obtain ⟨c0, e0, k1, k2, k3⟩ : BlkAt G w b (arrRow full) := R.holds _ _ (hrow b rfl)
      rw [arrRow_len hE1] at k2
      refine ⟨fun k => (c0[k]?).getD undef, fun w' hw => ?_, fun i j e dd hi h1 h2 => ?_⟩
      · simp only [Builtin.firstCells, Option.map_some]
        refine run_loadCells_f b 0 (n * E) _ (fun k hk => ?_)
        have hlt : k < c0.size := by omega
        rw [cell_of_heap hw, Nat.zero_add]
        simp [World.cell?, k1, hlt]
      · obtain ⟨q0, v, q1, q2⟩ := k3 (i * E + j) (.v dd) (by simp only [arrRow, List.getElem?_map, flatten_at hE1 h1 h2, Option.map_some])
        exact ⟨q0, by show RV G.D w dd ((c0[i * E + j]?).getD undef); rw [q1]; exact q2⟩
  obtain ⟨hzl, c, e, nc, r1, r2, r3, r4, r5, r6⟩ := run_append_newZ (P := X.P) (t := T) (ty := o.type) (t2 := T2) (w := w) he hB h2 (base := q.map fun b => ⟨b, 0, none⟩) (len := n) (cap := cap) (fun w' _ => lenOf_sl (P := X.P) hyr w') hdr hdo (by omega) hbig (arr_size _ _) (arr_size _ _) hz
  rw [← hv] at r1
  have hexec : (execOp a.eval o).run X.P w = .ok (.value (.slice (some ⟨w.heap.size, 0, none⟩) (n + zs.length) nc)) (w.drew.alloc (.cells c e)) := by
    simp [execOp, ho, resolve, invoke, builtin, r1]
  refine opIn (by intro c e; rw [ho] at e; cases e) ?_
  rw [hexec, upn_value, hd]
  have hp := put_tmps a (some d) (.slice (some ⟨w.heap.size, 0, none⟩) (n + zs.length) nc)
  have T' : Trans X G a w G (a.put (some d) (.slice (some ⟨w.heap.size, 0, none⟩) (n + zs.length) nc)) (w.drew.alloc (.cells c e)) (fun _ => False) := by
    refine ⟨hp.1, fun h => (h.heap fun b hb => alloc_old w.drew _ b hb).put hp.2, rfl, rfl, rfl, by simp, fun b hb _ => alloc_old w.drew _ b hb, fun _ h => h.elim, fun b k hD => ⟨hD, World.cell?_alloc_lt w.drew _ _ (R.wf.lt hD)⟩, fun b k hD hnD => absurd hD hnD, R.nil⟩
  refine hK w.heap.size nc r2 (newB_size R) R.ext.size hzl G _ _ (R.newArr hn (w1 := w.drew) rfl T' (E := E) ?_ ?_ ?_ ?_)
  · intro e he
    rcases List.mem_append.1 he with he | he
    · rcases List.mem_append.1 he with he | he
      · exact hE1 e (List.mem_of_mem_take he)
      · exact hE2 e he
    · rw [(List.mem_replicate.1 he).2]; exact hzl
  · intro e he d hd
    rcases List.mem_append.1 he with he | he
    · rcases List.mem_append.1 he with he | he
      · obtain ⟨i, hi⟩ := List.mem_iff_getElem?.1 he
        obtain ⟨j, hj⟩ := List.mem_iff_getElem?.1 hd
        have hin : i < n := by
          have := (List.getElem?_eq_some_iff.1 hi).1
          rw [List.length_take] at this; omega
        rw [List.getElem?_take_of_lt hin] at hi
        exact (hold i j e d hin hi hj).1
      · exact c2 e he d hd
    · rw [(List.mem_replicate.1 he).2] at hd
      exact (cellB_iff zd).1 hzc d hd
  · rw [r3]
    simp only [List.length_append, List.length_take, List.length_replicate]
    exact Nat.mul_le_mul_right _ (by omega)
  · intro i j e dd hi hj
    have hl1 : (full.take n).length = n := by rw [List.length_take, Nat.min_eq_left (by omega)]
    rw [List.append_assoc] at hi
    rcases Nat.lt_or_ge i n with h | h
    · rw [List.getElem?_append_left (by omega), List.getElem?_take_of_lt h] at hi
      have hjE : j < E := by rw [← hE1 e (List.mem_of_getElem? hi)]; exact (List.getElem?_eq_some_iff.1 hj).1
      have hlt := lt_mul h hjE
      refine ⟨_, ?_, (hold i j e dd h hi hj).2⟩
      rw [r4 _ hlt, arr_get _ _ _ hlt]
    · rw [List.getElem?_append_right (by omega), hl1] at hi
      rcases Nat.lt_or_ge (i - n) zs.length with h' | h'
      · rw [List.getElem?_append_left h'] at hi
        have hjE : j < E := by rw [← hE2 e (List.mem_of_getElem? hi)]; exact (List.getElem?_eq_some_iff.1 hj).1
        have hlt := lt_mul h' hjE
        refine ⟨_, ?_, g1 _ _ _ _ hi hj⟩
        have e1 : i * E + j = n * E + ((i - n) * E + j) := by rw [← Nat.add_assoc, ← Nat.add_mul]; congr 2; omega
        rw [e1, r5 _ hlt, arr_get _ _ _ hlt]
      · rw [List.getElem?_append_right h'] at hi
        obtain ⟨hi1, hi2⟩ : e = zd ∧ i - n - zs.length < nc - (n + zs.length) := by
          have hm := List.mem_of_getElem? hi
          have hlt := (List.getElem?_eq_some_iff.1 hi).1
          simp only [List.length_replicate] at hlt
          exact ⟨(List.mem_replicate.1 hm).2, hlt⟩
        subst hi1
        obtain ⟨v, q1, q2⟩ := r6 G w R.nil (i - n - zs.length) j dd hi2 hj
        refine ⟨v, ?_, q2⟩
        rw [show n + zs.length + (i - n - zs.length) = i from by omega] at q1
        exact q1

theorem newB_ne {b : Nat} : ∀ {s : St}, newB b s → ∀ h v, get s (.heap h) = some v → h ≠ b
  | [], _, h, v, hg => by cases hg
  | (.heap b', u) :: r, hn, h, v, hg => by
    simp only [get] at hg
    split at hg
    · rename_i e
      cases e
      exact hn.1
    · exact newB_ne hn.2 h v hg
  | (.slot n, u) :: r, hn, h, v, hg => by
    simp only [get] at hg
    rw [if_neg (by intro e; cases e)] at hg
    exact newB_ne (s := r) hn h v hg
  | (.loc n, u) :: r, hn, h, v, hg => by
    simp only [get] at hg
    rw [if_neg (by intro e; cases e)] at hg
    exact newB_ne (s := r) hn h v hg
  | (.tok n, u) :: r, hn, h, v, hg => by
    simp only [get] at hg
    rw [if_neg (by intro e; cases e)] at hg
    exact newB_ne (s := r) hn h v hg

/-- APPEND TO A SLICE THAT IS RAW OR NIL -/
theorem free_append {o : Oper} {x y : Operand} {T T2 : TypeId} (ho : o.op = .call { callee := .builtin .append, args := #[x, y], argTypes := #[T, T2] }) {d : Nat} (hd : o.dst = some d) (hn : d < X.n)
    {E B : Nat} (he : elemZ X.P T = some (E, B)) (hB : 0 < B ∧ B ≤ 1024) (h2 : (elemT X.P T2).isSome = true) {q : Option Nat} {n cap : Nat} {full zs : List (List DV)} {zd : List DV} (hx : evl X (get s) x = some (.v (rawQ q n cap))) (hy : (evl X (get s) y).bind slOf = some zs)
    (hrow : ∀ b, q = some b → get s (.heap b) = some (.row (arrRow full))) (hq0 : q = none → n = 0 ∧ cap = 0) (hfl : full.length = cap) (hnc : n ≤ cap) (hpos : 0 < zs.length) (hbig : n + zs.length ≤ BIG) (hE1 : ∀ e ∈ full, e.length = E) (hE2 : ∀ e ∈ zs, e.length = E) (hz : zeroE X.P T = some zd) (hzc : cellB zd = true) :
    FreeStep X o s d q (AppP X q E n full zs) := by
  intro s' hs G a w R next Q hK
  have hx' := evl_mono hs hx
  have hy' := bind_mono hs hy
  have hrow' : ∀ b, q = some b → get s' (.heap b) = some (.row (arrRow full)) := fun b hb => hs _ _ (hrow b hb)
  rcases Nat.lt_or_ge cap (n + zs.length) with h | h
  · refine step_appendQ ho hd hn he hB h2 hx' hy' hrow' (fun hq => (hq0 hq).1) hfl hnc h hbig hE1 hE2 hz hzc R next Q fun b' cap' hc hb hw hzl G' a' w' R' => ?_
    have hl : (full.take n).length = n := by rw [List.length_take]; omega
    have hnb : newB b' s' := hb
    refine hK _ b' _ ⟨cap', full.take n ++ zs ++ List.replicate (cap' - (n + zs.length)) zd, rfl, rfl, ?_, ?_, hc, ?_, .inr ⟨hw, fun b'' hq => (newB_ne hnb b'' _ (hrow' b'' hq)).symm⟩⟩ ?_ G' a' w' ?_
    · simp only [List.length_append, List.length_replicate, hl]; omega
    · intro e he
      rcases List.mem_append.1 he with he | he
      · rcases List.mem_append.1 he with he | he
        · exact hE1 e (List.mem_of_mem_take he)
        · exact hE2 e he
      · rw [(List.mem_replicate.1 he).2]; exact hzl
    · rw [List.take_append_of_le_length (by rw [List.length_append, hl]; exact Nat.le_refl _), List.take_of_length_le (by rw [List.length_append, hl]; exact Nat.le_refl _)]
    · intro h1 _ hg e
      subst e
      cases hg' : get s' (.heap b') with
      | none => exact hg hg'
      | some v => exact newB_ne hnb b' v hg' rfl
    · refine R'.weaken fun l v hl => ?_
      unfold effO at hl
      rw [get_upd] at hl ⊢
      by_cases h1 : Loc.heap b' = l
      · rw [if_pos h1] at hl ⊢; exact hl
      · rw [if_neg h1] at hl ⊢
        rw [get_upd] at hl ⊢
        by_cases h3 : Loc.slot d = l
        · rw [if_pos h3] at hl ⊢; exact hl
        · rw [if_neg h3] at hl ⊢
          cases q with
          | none => exact hl
          | some b0 =>
            simp only [delO] at hl
            rw [get_del] at hl
            split at hl
            · cases hl
            · exact hl
  · cases q with
    | none => have := (hq0 rfl); omega
    | some b =>
      have hstep := step_appendF (s := s') ho hd hn he h2 (b := b) hx' hy' (hrow' b rfl) hfl h hE1 hE2
      refine hstep G a w R next Q fun G' a' w' R' => ?_
      have hl : (full.take n).length = n := by rw [List.length_take]; omega
      refine hK _ b _ ⟨cap, full.take n ++ zs ++ full.drop (n + zs.length), rfl, rfl, ?_, ?_, h, ?_, .inl rfl⟩ (fun h' hne hg e => hne (by rw [e])) G' a' w' (R'.congr fun l => ?_)
      · simp only [List.length_append, List.length_drop, hl]; omega
      · intro e he
        rcases List.mem_append.1 he with he | he
        · rcases List.mem_append.1 he with he | he
          · exact hE1 e (List.mem_of_mem_take he)
          · exact hE2 e he
        · exact hE1 e (List.mem_of_mem_drop he)
      · rw [List.take_append_of_le_length (by rw [List.length_append, hl]; exact Nat.le_refl _), List.take_of_length_le (by rw [List.length_append, hl]; exact Nat.le_refl _)]
      · unfold effO delO
        rw [get_upd, get_upd, get_upd, get_upd, get_del]
        by_cases h1 : Loc.slot d = l
        · subst h1
          rw [if_neg (by intro e; cases e), if_pos rfl, if_pos rfl]
        · by_cases h3 : Loc.heap b = l
          · rw [if_pos h3, if_neg h1, if_pos h3]
          · rw [if_neg h3, if_neg h1, if_neg h1, if_neg h3, if_neg h3]
theorem fresh_vs {n : Nat} {l : List (List DV)} : anyLoc n (arrRow l) = false ∧ anyTok n (arrRow l) = false := ⟨anyLoc_vs n _, anyTok_vs n _⟩
theorem fresh_app {q : Option Nat} {E n d : Nat} {old zs : List (List DV)} : ∀ y b cs, AppP X q E n old zs y b cs → ∀ m s, fresh m s = true → fresh m (effO d q y b cs s) = true := by
  rintro y b cs ⟨cap, full, rfl, rfl, -⟩ m s h
  have hd1 : ∀ (s : St) (l : Loc), freshL m s = true → freshL m (del s l) = true := by
    intro s l
    induction s with
    | nil => exact id
    | cons p r ih =>
      obtain ⟨l', v⟩ := p
      intro h
      simp only [del]
      split
      · cases l' <;> cases v <;> simp_all [freshL]
      · cases l' <;> cases v <;> simp_all [freshL]
  have hd2 : ∀ (s : St) (l : Loc), freshT m s = true → freshT m (del s l) = true := by
    intro s l
    induction s with
    | nil => exact id
    | cons p r ih =>
      obtain ⟨l', v⟩ := p
      intro h
      simp only [del]
      split
      · cases l' <;> cases v <;> simp_all [freshT]
      · cases l' <;> cases v <;> simp_all [freshT]
  simp only [fresh, Bool.and_eq_true] at h ⊢
  have h0 : freshL m (delO q s) = true ∧ freshT m (delO q s) = true := by
    cases q with
    | none => exact h
    | some b => exact ⟨hd1 _ _ h.1, hd2 _ _ h.2⟩
  unfold effO upd
  constructor
  · simp only [freshL, fresh_vs.1, Bool.not_false, Bool.true_and]
    refine hd1 _ _ ?_
    simp only [freshL, hasLoc, Bool.not_false, Bool.true_and]
    exact hd1 _ _ h0.1
  · simp only [freshT, fresh_vs.2, Bool.not_false, Bool.true_and]
    refine hd2 _ _ ?_
    simp only [freshT, hasTok, Bool.not_false, Bool.true_and]
    exact hd2 _ _ h0.2

theorem VL_le {ops : Array Oper} {l : List Oper} {K : St → Prop} {s1 : St} (h : leS s1 s) (hv : VL X ops l s1 K) : VL X ops l s K := fun n hn G a w R => hv n hn G a w (R.weaken h)
/-- the same, where the state behind it is told -/
theorem vcK_freeW {esc : List Nat} {ops : Array Oper} {l : List Oper} {K : St → Prop} {o : Oper} {q : Option (Prop × St)} {d : Nat} {a0 : Option Nat} {P : SV → Nat → List SV → Prop} (hg : o.guard = none) (hf : FreeStep X o s d a0 P) (hq : q = none)
    (h : ∀ y b cs, P y b cs → newA b a0 s → ∃ s1, leS s1 (effO d a0 y b cs s) ∧ VL X ops l s1 K) : vcK X esc ops l K o s q := by
  subst hq
  intro m hm G a w R0
  obtain ⟨p1, p3⟩ := drop_cons hm
  have hw : ∀ y, Region.wanted o y = true := fun y => by simp [Region.wanted, hg]
  simp only [List.length_cons, List.range'_succ, wpOpsIn, p1, hw, if_true]
  exact hf s (fun _ _ h => h) G a w R0 _ _ fun y b cs hp hn G' a' w' R' => by
    obtain ⟨s1, h1, h2⟩ := h y b cs hp hn
    exact h2 (m + 1) p3 G' a' w' (R'.weaken h1)

def qL : Option Nat → List Loc
  | none => []
  | some b => [.heap b]
theorem vcdF_append {esc : List Nat} {ops : Array Oper} {d : Nat} {K : St → List Ev → Prop} {ev : List Ev} {l : List (Option Oper)} {x y : Operand} {T T2 ty : TypeId} {pos : String} {af : Array Edge}
    {E B : Nat} {q : Option Nat} {n cap : Nat} {full zs : List (List DV)} {zd : List DV} (hx : evl X (get s) x = some (.v (rawQ q n cap))) (hy : evl X (get s) y = some (.v (.sl zs)))
    (he : elemZ X.P T = some (E, B)) (hz : zeroE X.P T = some zd) (hzc : cellB zd = true) (hB : 0 < B ∧ B ≤ 1024) (h2 : (elemT X.P T2).isSome = true) (hn : d < X.n)
    (hrow : ∀ b, q = some b → get s (.heap b) = some (.row (arrRow full))) (hq0 : q = none → n = 0 ∧ cap = 0) (hfl : full.length = cap) (hnc : n ≤ cap) (hpos : 0 < zs.length) (hbig : n + zs.length ≤ BIG) (hE1 : ∀ e ∈ full, e.length = E) (hE2 : ∀ e ∈ zs, e.length = E)
    (h : vcdF X esc ops s0 ⟨some d, .call { callee := .builtin .append, args := #[x, y], argTypes := #[T, T2] }, ty, pos, af, none⟩ d q (AppP X q E n full zs) K l (upd s (.slot d) (.one (.v (.prim (.bool false))))) (⟨slotsOf [x, y] ++ qL q, dumE d, []⟩ :: ev)) :
    vcdF X esc ops s0 ⟨some d, .call { callee := .builtin .append, args := #[x, y], argTypes := #[T, T2] }, ty, pos, af, none⟩ d q (AppP X q E n full zs) K (none :: l) s ev := by
  have hsl : ∀ z : Operand, z = x ∨ z = y → ∀ t, z = .tmp t → Loc.slot t ∈ slotsOf [x, y] ++ qL q := by
    intro z hz t ht
    subst ht
    refine List.mem_append.2 (.inl ?_)
    rcases hz with rfl | rfl
    · simp [slotsOf]
    · cases x <;> simp [slotsOf]
  have hy' : evl X (get (restr s (slotsOf [x, y] ++ qL q))) y = some (.v (.sl zs)) := evl_restr (hsl y (.inr rfl)) (fun _ _ h => h) hy
  refine vcdF_free (slotsOf [x, y] ++ qL q) (free_append (o := ⟨some d, .call { callee := .builtin .append, args := #[x, y], argTypes := #[T, T2] }, ty, pos, af, none⟩) rfl rfl hn he hB h2 (evl_restr (hsl x (.inl rfl)) (fun _ _ h => h) hx) (by rw [hy']; rfl) (fun b hb => ?_) hq0 hfl hnc hpos hbig hE1 hE2 hz hzc) h
  refine get_restr_mem (List.mem_append.2 (.inr ?_)) (hrow b hb)
  rw [hb]
  exact List.mem_singleton.2 rfl

/-! a state that ends in objects -/
def noHeap : St → Bool
  | [] => true
  | (.heap _, _) :: _ => false
  | _ :: r => noHeap r
theorem noHeap_get : ∀ {l : St}, noHeap l = true → ∀ b, get l (.heap b) = none
  | [], _, _ => rfl
  | (.heap _, _) :: _, h, _ => by cases h
  | (.slot n, v) :: r, h, b => by
    simp only [get, reduceCtorEq, if_false]
    exact noHeap_get (l := r) h b
  | (.loc n, v) :: r, h, b => by
    simp only [get, reduceCtorEq, if_false]
    exact noHeap_get (l := r) h b
  | (.tok n, v) :: r, h, b => by
    simp only [get, reduceCtorEq, if_false]
    exact noHeap_get (l := r) h b
theorem get_heapSt_of {φ : Objs} (hn : (φ.map (·.1)).Nodup) {b : Nat} {cs : List DV} (h : (b, cs) ∈ φ) : get (heapSt φ) (.heap b) = some (.row (cs.map SV.v)) := objsIn_self hn b cs h
theorem get_tail {l : St} (hl : noHeap l = true) (φ : Objs) (b : Nat) : get (l ++ heapSt φ) (.heap b) = get (heapSt φ) (.heap b) := by
  rw [get_append, noHeap_get hl]; rfl
theorem get_tail_no {l : St} (φ : Objs) {m : Loc} (hm : ∀ b, m ≠ .heap b) : get (l ++ heapSt φ) m = get l m := by
  rw [get_append]
  cases h : get l m with
  | some v => rfl
  | none =>
    cases h' : get (heapSt φ) m with
    | none => rfl
    | some v => obtain ⟨b, cs, e, -⟩ := get_heapSt h'; exact absurd e (hm b)
/-- what a state must say to say what one says that ends in objects -/
theorem leS_tail {l s' : St} {ψ : Objs} (hl : ∀ m v, (∀ b, m ≠ .heap b) → get l m = some v → get s' m = some v) (hnh : noHeap l = true) (ho : objsIn (get s') ψ) : leS (l ++ heapSt ψ) s' := by
  intro m v hm
  by_cases hb : ∃ b, m = .heap b
  · obtain ⟨b, rfl⟩ := hb
    rw [get_tail hnh] at hm
    obtain ⟨b', cs, e, rfl, hmem⟩ := get_heapSt hm
    cases e
    exact ho _ _ hmem
  · have hb' : ∀ b, m ≠ .heap b := fun b e => hb ⟨b, e⟩
    rw [get_tail_no _ hb'] at hm
    exact hl m v hb' hm
theorem get_addObjs_no (s : St) {m : Loc} (hm : ∀ b, m ≠ .heap b) : ∀ φ : Objs, get (addObjs s φ) m = get s m
  | [] => rfl
  | (b, cs) :: r => by rw [addObjs, get_upd, if_neg (fun e => hm b e.symm), get_addObjs_no s hm r]
theorem get_delObjs_no {m : Loc} (hm : ∀ b, m ≠ .heap b) : ∀ (φ : Objs) (s : St), get (delObjs s φ) m = get s m
  | [], s => rfl
  | (b, cs) :: r, s => by rw [delObjs, get_delObjs_no hm r, get_del, if_neg (fun e => hm b e.symm)]
theorem objsIn_addObjs {φ : Objs} (hn : (φ.map (·.1)).Nodup) (s : St) : objsIn (get (addObjs s φ)) φ := by
  induction φ with
  | nil => intro b cs h; cases h
  | cons p r ih =>
    obtain ⟨b0, c0⟩ := p
    simp only [List.map_cons, List.nodup_cons] at hn
    intro b cs h
    rw [addObjs, get_upd]
    rcases List.mem_cons.1 h with e | h
    · cases e; rw [if_pos rfl]
    · rw [if_neg (fun e => by cases e; exact hn.1 (List.mem_map.2 ⟨_, h, rfl⟩))]
      exact ih hn.2 b cs h
theorem noHeap_del : ∀ {l : St}, noHeap l = true → ∀ m, noHeap (del l m) = true
  | [], _, _ => rfl
  | (.heap _, _) :: _, h, _ => by cases h
  | (.slot n, v) :: r, h, m => by
    have := noHeap_del (l := r) h m
    simp only [del]; split <;> simpa [noHeap] using this
  | (.loc n, v) :: r, h, m => by
    have := noHeap_del (l := r) h m
    simp only [del]; split <;> simpa [noHeap] using this
  | (.tok n, v) :: r, h, m => by
    have := noHeap_del (l := r) h m
    simp only [del]; split <;> simpa [noHeap] using this
theorem noHeap_upd {l : St} (h : noHeap l = true) (d : Nat) (y : LV) : noHeap (upd l (.slot d) y) = true := by
  show noHeap ((.slot d, y) :: del l (.slot d)) = true
  simp only [noHeap]
  exact noHeap_del h _

/-- a state's end is objects -/
inductive Tail : St → St → Objs → Prop
  | nil (φ : Objs) : Tail (heapSt φ) [] φ
  | slot {s l : St} {φ : Objs} (n : Nat) (v : LV) (h : Tail s l φ) : Tail ((.slot n, v) :: s) ((.slot n, v) :: l) φ
  | loc {s l : St} {φ : Objs} (n : Nat) (v : LV) (h : Tail s l φ) : Tail ((.loc n, v) :: s) ((.loc n, v) :: l) φ
  | tok {s l : St} {φ : Objs} (n : Nat) (v : LV) (h : Tail s l φ) : Tail ((.tok n, v) :: s) ((.tok n, v) :: l) φ
theorem Tail.spec {s l : St} {φ : Objs} (h : Tail s l φ) : s = l ++ heapSt φ ∧ noHeap l = true := by
  induction h with
  | nil φ => exact ⟨rfl, rfl⟩
  | slot n v h ih => exact ⟨by rw [ih.1]; rfl, ih.2⟩
  | loc n v h ih => exact ⟨by rw [ih.1]; rfl, ih.2⟩
  | tok n v h ih => exact ⟨by rw [ih.1]; rfl, ih.2⟩

/-- a call of a function value whose outcome a relation tells; the objects stand at the state's end -/
theorem vcK_callVT {esc : List Nat} {ops : Array Oper} {l : List Oper} {K : St → Prop} {d : Tmp} {x : Operand} {f : FuncId} {fi ca : Array Value} {args : Array Operand} {ats : Array TypeId} {ty : TypeId} {pos : String} {af : Array Edge} {P : Program} {gl : Globs} (hP : X.P = P) (hgl : X.gl = gl)
    (hx : evl X (get s) x = some (.v (.prim (.func (.func f) fi ca)))) (hprim : ∀ v ∈ fi.toList ++ ca.toList, primOK v)
    {ds ds' : List DV} {φ : Objs} {R : DV → Objs → Prop} (hc : Con P gl f ds' φ R) (hargs : evlDs X (get s) args.toList = some ds) (hds : fi.toList.map DV.prim ++ ds ++ ca.toList.map DV.prim = ds') {sl : St} (ht : Tail s sl φ) (hnd : (φ.map (·.1)).Nodup) (hdn : d < X.n) {q : Option (Prop × St)} (hq : q = none)
    (h : ∀ r φ', R r φ' → (φ'.map (·.1)).Nodup ∧ vc X esc ops l (upd sl (.slot d) (.one (.v r)) ++ heapSt φ') K) :
    vcK X esc ops l K ⟨some d, .call { callee := .value x, args := args, argTypes := ats }, ty, pos, af, none⟩ s q := by
  subst hds hq
  obtain ⟨hs, hl⟩ := ht.spec
  intro n hn G a w R0
  obtain ⟨h1, h2⟩ := drop_cons hn
  simp only [List.length_cons, List.range'_succ, wpOpsIn, h1, Region.wanted, if_true]
  have hφ : objsIn (get s) φ := by
    intro b cs hm
    rw [hs, get_tail hl]
    exact get_heapSt_of hnd hm
  refine StepCall (o := ⟨some d, .call { callee := .value x, args := args, argTypes := ats }, ty, pos, af, none⟩) (ds := fi.toList.map DV.prim ++ ds ++ ca.toList.map DV.prim) rfl hx ⟨ds, hargs, rfl⟩ hprim (by rw [hP, hgl]; exact hc) hφ hnd rfl hdn R0 _ _ fun r φ' G' a' w' hR hids R' => ?_
  obtain ⟨k1, k2⟩ := h r φ' hR
  refine vc_sound k2 (n + 1) h2 G' a' w' (R'.weaken (leS_tail (fun m v hm hg => ?_) (noHeap_upd hl _ _) (objsIn_addObjs k1 _)))
  rw [get_addObjs_no _ hm, get_delObjs_no hm, get_upd]
  rw [get_upd] at hg
  split
  · rename_i e; rw [if_pos e] at hg; exact hg
  · rename_i e
    rw [if_neg e] at hg
    rw [hs, get_tail_no _ hm]
    exact hg

theorem subLe_hs_slot (σ : Nat → Nat) (n : Nat) (v : LV) (s : St) (ψ : Objs) : subLe σ ((.slot n, v) :: s) (heapSt ψ) = subLe σ s (heapSt ψ) := by
  induction ψ with
  | nil => rfl
  | cons p r ih => obtain ⟨b, cs⟩ := p; simp only [heapSt, subLe, ih, factLe, get, reduceCtorEq, if_false]
theorem subLe_hs_loc (σ : Nat → Nat) (n : Nat) (v : LV) (s : St) (ψ : Objs) : subLe σ ((.loc n, v) :: s) (heapSt ψ) = subLe σ s (heapSt ψ) := by
  induction ψ with
  | nil => rfl
  | cons p r ih => obtain ⟨b, cs⟩ := p; simp only [heapSt, subLe, ih, factLe, get, reduceCtorEq, if_false]
theorem subLe_hs_tok (σ : Nat → Nat) (n : Nat) (v : LV) (s : St) (ψ : Objs) : subLe σ ((.tok n, v) :: s) (heapSt ψ) = subLe σ s (heapSt ψ) := by
  induction ψ with
  | nil => rfl
  | cons p r ih => obtain ⟨b, cs⟩ := p; simp only [heapSt, subLe, ih, factLe, get, reduceCtorEq, if_false]
theorem rowLe_dv (σ : Nat → Nat) (l : List DV) : rowLe σ (l.map SV.v) (l.map SV.v) := by
  induction l with
  | nil => simp [rowLe]
  | cons x r ih => simp [rowLe, svLe, ih]
theorem subLe_objs (σ : Nat → Nat) {s : St} : ∀ {ψ : Objs}, objsIn (get s) ψ → subLe σ s (heapSt ψ)
  | [], _ => trivial
  | (b, cs) :: r, h => by
    refine ⟨?_, subLe_objs σ fun b' cs' hm => h b' cs' (List.mem_cons_of_mem _ hm)⟩
    simp only [factLe]
    rw [h b cs (by simp)]
    exact rowLe_dv σ cs
theorem subLe_hs_self (σ : Nat → Nat) {ψ : Objs} (hn : (ψ.map (·.1)).Nodup) : subLe σ (heapSt ψ) (heapSt ψ) = True := by
  rw [eq_iff_iff, iff_true]
  exact subLe_objs σ (objsIn_self hn)
attribute [go_sem] subLe_hs_slot subLe_hs_loc subLe_hs_tok

/-- a raw slice, or nil, with its block -/
structure RS where
  q : Option Nat
  n : Nat
  cap : Nat
  full : List (List DV)
abbrev RS.v (x : RS) : DV := rawQ x.q x.n x.cap
def RS.objs (x : RS) : Objs := match x.q with
  | none => []
  | some b => [(b, x.full.flatten)]
theorem RS.mem_objs {x : RS} {b : Nat} {cs : List DV} : (b, cs) ∈ x.objs ↔ x.q = some b ∧ cs = x.full.flatten := by
  unfold RS.objs
  cases x.q with
  | none => simp
  | some b0 => simp [eq_comm]
/-- it holds these elements -/
structure RS.is (x : RS) (E : Nat) (ys : List (List DV)) : Prop where
  nil : x.q = none → x.n = 0 ∧ x.cap = 0
  len : x.full.length = x.cap
  wid : ∀ e ∈ x.full, e.length = E
  le : x.n ≤ x.cap
  els : x.full.take x.n = ys
theorem RS.is.n_eq {x : RS} {E : Nat} {ys : List (List DV)} (h : x.is E ys) : x.n = ys.length := by
  rw [← h.els, List.length_take, h.len, Nat.min_eq_left h.le]
theorem RS.is.app {x : RS} {E : Nat} {ys zs : List (List DV)} (h : x.is E ys) {y : SV} {b : Nat} {cs : List SV} (ha : AppP X x.q E x.n x.full zs y b cs) : ∃ x' : RS, x'.q = some b ∧ y = .v x'.v ∧ cs = arrRow x'.full ∧ x'.is E (ys ++ zs) := by
  obtain ⟨cap, full, rfl, rfl, h3, h4, h5, h6, -⟩ := ha
  refine ⟨⟨some b, x.n + zs.length, cap, full⟩, rfl, rfl, rfl, ⟨(fun h => nomatch h), h3, h4, h5, ?_⟩⟩
  show full.take (x.n + zs.length) = _
  rw [h6, h.els]
/-- an array of a state that ends in objects is appended to -/
theorem eff_objs {l : St} {A B : Objs} {x x' : RS} {b d : Nat} {y : SV} (hl : noHeap l = true) (hnd : ((A ++ (x.objs ++ B)).map (·.1)).Nodup) (hx : x'.q = some b) (hnew : ∀ h, x.q ≠ some h → (∃ cs, (h, cs) ∈ A ++ (x.objs ++ B)) → b ≠ h) :
    leS (upd l (.slot d) (.one y) ++ heapSt (A ++ (x'.objs ++ B))) (effO d x.q y b (arrRow x'.full) (l ++ heapSt (A ++ (x.objs ++ B)))) ∧ ((A ++ (x'.objs ++ B)).map (·.1)).Nodup := by
  have hob : x'.objs = [(b, x'.full.flatten)] := by unfold RS.objs; rw [hx]
  have hne : ∀ p ∈ A ++ B, b ≠ p.1 ∧ x.q ≠ some p.1 := by
    rintro ⟨h, cs⟩ hp
    have hin : (h, cs) ∈ A ++ (x.objs ++ B) := by
      rcases List.mem_append.1 hp with h | h
      · exact List.mem_append.2 (.inl h)
      · exact List.mem_append.2 (.inr (List.mem_append.2 (.inr h)))
    have hq : x.q ≠ some h := by
      intro e
      have hx1 : (h, x.full.flatten) ∈ x.objs := RS.mem_objs.2 ⟨e, rfl⟩
      simp only [List.map_append, List.nodup_append, List.mem_append, List.mem_map] at hnd
      obtain ⟨-, ⟨-, -, n3⟩, n4⟩ := hnd
      rcases List.mem_append.1 hp with h1 | h1
      · exact n4 h ⟨_, h1, rfl⟩ h (.inl ⟨_, hx1, rfl⟩) rfl
      · exact n3 h ⟨_, hx1, rfl⟩ h ⟨_, h1, rfl⟩ rfl
    exact ⟨hnew h hq ⟨cs, hin⟩, hq⟩
  constructor
  · refine leS_tail (fun m v hm hg => ?_) (noHeap_upd hl _ _) ?_
    · rw [get_upd] at hg
      unfold effO
      rw [get_upd, if_neg (fun e => hm b e.symm), get_upd]
      split
      · rename_i e; rw [if_pos e] at hg; exact hg
      · rename_i e
        rw [if_neg e] at hg
        rw [get_delO _ _ _ (fun b' _ => hm b'), get_tail_no _ hm]
        exact hg
    · intro h cs hm
      rw [hob] at hm
      have hcase : (h, cs) = (b, x'.full.flatten) ∨ (h, cs) ∈ A ++ B := by
        rcases List.mem_append.1 hm with h1 | h1
        · exact .inr (List.mem_append.2 (.inl h1))
        · rcases List.mem_append.1 h1 with h1 | h1
          · exact .inl (List.mem_singleton.1 h1)
          · exact .inr (List.mem_append.2 (.inr h1))
      rcases hcase with e | h1
      · cases e
        unfold effO
        rw [get_upd, if_pos rfl]
        rfl
      · obtain ⟨k1, k2⟩ := hne _ h1
        rw [effO_ne (by simp) (fun e => by cases e; exact k1 rfl) (fun b' hb e => by cases e; exact k2 hb), get_tail hl]
        refine get_heapSt_of hnd ?_
        rcases List.mem_append.1 h1 with h | h
        · exact List.mem_append.2 (.inl h)
        · exact List.mem_append.2 (.inr (List.mem_append.2 (.inr h)))
  · rw [hob]
    simp only [List.map_append, List.map_cons, List.map_nil, List.nodup_append, List.mem_append, List.mem_map] at hnd ⊢
    obtain ⟨n1, ⟨-, n2, -⟩, n4⟩ := hnd
    refine ⟨n1, ⟨by simp, n2, ?_⟩, ?_⟩
    · intro a ha c ⟨p, hp, hc⟩ e
      have := (hne p (List.mem_append.2 (.inr hp))).1
      simp only [List.mem_singleton] at ha
      exact this (by rw [hc, ← e, ha])
    · rintro a ⟨p, hp, hc⟩ c hcc e
      rcases hcc with h | h
      · have := (hne p (List.mem_append.2 (.inl hp))).1
        simp only [List.mem_singleton] at h
        exact this (by rw [hc, e, h])
      · exact n4 a ⟨p, hp, hc⟩ c (.inr h) e
theorem newA_objs {l : St} {φ : Objs} {b : Nat} {q : Option Nat} (ht : Tail s l φ) (hnd : (φ.map (·.1)).Nodup) (hnew : newA b q s) : ∀ h, q ≠ some h → (∃ cs, (h, cs) ∈ φ) → b ≠ h := by
  obtain ⟨hs, hl⟩ := ht.spec
  rintro h hq ⟨cs, hin⟩
  refine hnew h hq ?_
  rw [hs, get_tail hl, get_heapSt_of hnd hin]
  simp
theorem VL_eff {ops : Array Oper} {lst : List Oper} {K : St → Prop} {l : St} {φ A B : Objs} {x : RS} {b d : Nat} {y : SV} (x' : RS) (ψ : Objs) (ht : Tail s l φ) (hφ : φ = A ++ (x.objs ++ B)) (hψ : ψ = A ++ (x'.objs ++ B)) (hnd : (φ.map (·.1)).Nodup) (hx : x'.q = some b) (hnew : ∀ h, x.q ≠ some h → (∃ cs, (h, cs) ∈ φ) → b ≠ h)
    (h : (ψ.map (·.1)).Nodup → VL X ops lst (upd l (.slot d) (.one y) ++ heapSt ψ) K) : VL X ops lst (effO d x.q y b (arrRow x'.full) s) K := by
  subst hφ hψ
  obtain ⟨hs, hl⟩ := ht.spec
  subst hs
  obtain ⟨h1, h2⟩ := eff_objs (d := d) (y := y) hl hnd hx hnew
  exact VL_le h1 (h h2)
theorem vcK_eff {esc : List Nat} {ops : Array Oper} {lst : List Oper} {K : St → Prop} {o : Oper} {q : Option (Prop × St)} {d : Nat} {l : St} {φ A B : Objs} {x : RS} {E : Nat} {ys zs : List (List DV)} (ψ : RS → Objs) (hg : o.guard = none) (ht : Tail s l φ) (hφ : φ = A ++ (x.objs ++ B)) (hψ : ∀ x', ψ x' = A ++ (x'.objs ++ B)) (hnd : (φ.map (·.1)).Nodup) (hi : x.is E ys)
    (hf : FreeStep X o s d x.q (AppP X x.q E x.n x.full zs)) (hq : q = none) (h : ∀ x' : RS, x'.is E (ys ++ zs) → (∃ b, x'.q = some b) → ((ψ x').map (·.1)).Nodup → VL X ops lst (upd l (.slot d) (.one (.v x'.v)) ++ heapSt (ψ x')) K) : vcK X esc ops lst K o s q := by
  refine vcK_freeW hg hf hq fun y b cs hap hnew => ?_
  obtain ⟨x', hq', rfl, rfl, hx'⟩ := hi.app hap
  have h0 := newA_objs ht hnd hnew
  subst hφ
  obtain ⟨hs, hl⟩ := ht.spec
  subst hs
  obtain ⟨h1, h2⟩ := eff_objs (d := d) (y := .v x'.v) hl hnd hq' h0
  have h3 := h x' hx' ⟨b, hq'⟩ (by rw [hψ]; exact h2)
  rw [hψ] at h3
  exact ⟨_, h1, h3⟩
/-- a box of a state that ends in objects is written -/
theorem upd_objs {l : St} {A B : Objs} {b : Nat} {c c' : List DV} (hl : noHeap l = true) (hnd : ((A ++ (b, c) :: B).map (·.1)).Nodup) :
    leS (l ++ heapSt (A ++ (b, c') :: B)) (upd (l ++ heapSt (A ++ (b, c) :: B)) (.heap b) (.row (c'.map SV.v))) ∧ ((A ++ (b, c') :: B).map (·.1)).Nodup := by
  refine ⟨leS_tail (fun m v hm hg => ?_) hl ?_, by simpa using hnd⟩
  · rw [get_upd, if_neg (fun e => hm b e.symm), get_tail_no _ hm]
    exact hg
  · intro h cs hm
    rw [get_upd]
    have hcase : (h, cs) = (b, c') ∨ (h, cs) ∈ A ++ B := by
      rcases List.mem_append.1 hm with h1 | h1
      · exact .inr (List.mem_append.2 (.inl h1))
      · rcases List.mem_cons.1 h1 with h1 | h1
        · exact .inl h1
        · exact .inr (List.mem_append.2 (.inr h1))
    rcases hcase with e | h1
    · cases e; rw [if_pos rfl]
    · have hne : b ≠ h := by
        intro e
        subst e
        simp only [List.map_append, List.map_cons, List.nodup_append, List.nodup_cons, List.mem_cons, List.mem_map] at hnd
        obtain ⟨-, ⟨n2, -⟩, n4⟩ := hnd
        rcases List.mem_append.1 h1 with h2 | h2
        · exact n4 b ⟨_, h2, rfl⟩ b (.inl rfl) rfl
        · exact n2 ⟨_, h2, rfl⟩
      rw [if_neg (fun e => by cases e; exact hne rfl), get_tail hl]
      refine get_heapSt_of hnd ?_
      rcases List.mem_append.1 h1 with h | h
      · exact List.mem_append.2 (.inl h)
      · exact List.mem_append.2 (.inr (List.mem_cons_of_mem _ h))
theorem VL_boxT {ops : Array Oper} {lst : List Oper} {K : St → Prop} {T ty : TypeId} {p x : Operand} {pos : String} {af : Array Edge} {l : St} {φ A B : Objs} {b : Nat} {c d : DV} {agg : Bool} (ψ : Objs)
    (ht : Tail s l φ) (hφ : φ = A ++ (b, [c]) :: B) (hψ : ψ = A ++ (b, [d]) :: B) (hnd : (φ.map (·.1)).Nodup) (hp : evl X (get s) p = some (.v (.prim (.pointer (some ⟨b, 0, none⟩))))) (hx : evl X (get s) x = some (.v d)) (hl : layT X.P T = some (agg, 1)) (hc : cellsS (.v d) = [.v d]) (hd : d.isCell = true)
    (h : (ψ.map (·.1)).Nodup → VL X ops lst (l ++ heapSt ψ) K) : VL X ops (⟨none, .store T p x, ty, pos, af, none⟩ :: lst) s K := by
  subst hφ hψ
  obtain ⟨hs, hh⟩ := ht.spec
  obtain ⟨k1, k2⟩ := upd_objs (c' := [d]) hh hnd
  have hg : get s (.heap b) = some (.row [.v c]) := by rw [hs, get_tail hh]; exact get_heapSt_of hnd (cs := [c]) (List.mem_append.2 (.inr (List.mem_cons_self ..)))
  have hstep := step_store_heap (s := s) (X := X) (o := ⟨none, .store T p x, ty, pos, af, none⟩) (t := T) (p := p) (x := x) rfl rfl hp hg hl (y := .v d) hx (ys := [.v d]) (by rw [hc]; rfl) ⟨rfl, by simp⟩ (by simp [cellBS, SV.isCell, hd])
  refine VL_step rfl hstep (VL_le ?_ (h k2))
  have e : put [SV.v c] 0 [SV.v d] = [SV.v d] := rfl
  rw [e, hs]
  exact k1
/-- the first elements of an array become data -/
theorem W_freezeN {b E : Nat} {full : List (List DV)} {kk : List Item} (n : Nat) (hrow : get s (.heap b) = some (.row (arrRow full))) (hE : ∀ e ∈ full, e.length = E) (hn : n ≤ full.length) (hbig : n ≤ BIG) (hids : X.ids = []) (h : W X kk (frz b (full.take n) (del s (.heap b)))) : W X kk s := by
  intro G a w b' cs hf hkk hr R
  have hw : X.w0.heap.size ≤ b := by
    rcases R.own _ _ b hrow rfl with h | ⟨h, -⟩
    · exact h
    · rw [hids] at h; cases h
  have hpre : arrRow full = arrRow (full.take n) ++ arrRow (full.drop n) := by rw [← arrRow_append, List.take_append_drop]
  have R1 : Rel X G (upd s (.heap b) (.row (arrRow (full.take n)))) a w := by
    have hb : BlkAt G w b (arrRow (full.take n)) := by
      obtain ⟨c, e, h1, h2, h3⟩ := R.holds _ _ hrow
      rw [hpre, List.length_append] at h2
      refine ⟨c, e, h1, by omega, fun i x hx => ?_⟩
      have hlt := (List.getElem?_eq_some_iff.1 hx).1
      exact h3 i x (by rw [hpre, List.getElem?_append_left hlt]; exact hx)
    refine ⟨R.size, R.defers, R.ext, R.wf, R.nil, fun l v hl => ?_, fun l v l' v' b' hl hl' hb1 hb2 => ?_, fun l v b' hl hb1 => ?_, fun l v b' o hl hb1 ht => ?_⟩
    · rw [get_upd] at hl
      split at hl
      · subst_vars; cases hl; exact hb
      · exact R.holds _ _ hl
    · have key : ∀ l v, get (upd s (.heap b) (.row (arrRow (full.take n)))) l = some v → ∃ v0, get s l = some v0 ∧ blkOf G l v = blkOf G l v0 := by
        intro l v hl
        rw [get_upd] at hl
        split at hl
        · subst_vars; cases hl; exact ⟨_, hrow, rfl⟩
        · exact ⟨v, hl, rfl⟩
      obtain ⟨v0, k1, k2⟩ := key _ _ hl
      obtain ⟨v1, k3, k4⟩ := key _ _ hl'
      rw [k2] at hb1
      rw [k4] at hb2
      exact R.sep _ _ _ _ _ k1 k3 hb1 hb2
    · rw [get_upd] at hl
      split at hl
      · subst_vars; cases hl; exact R.own _ _ _ hrow hb1
      · exact R.own _ _ _ hl hb1
    · rw [get_upd] at hl
      split at hl
      · subst_vars; cases hl; exact R.data _ _ _ o hrow hb1 ht
      · exact R.data _ _ _ o hl hb1 ht
  obtain ⟨G', R'⟩ := R1.freeze (ys := full.take n) (fun e he => hE e (List.mem_of_mem_take he)) (by rw [List.length_take]; omega) hw (by rw [get_upd, if_pos rfl])
  refine h G' a w b' cs hf hkk hr (R'.congr fun l => ?_)
  rw [get_frz, get_frz, get_del, get_del, get_upd]
  by_cases h1 : Loc.heap b = l
  · rw [if_pos h1, if_pos h1]
  · rw [if_neg h1, if_neg h1, if_neg h1]
theorem anyLoc_arrZ (d : Nat) (ys : List (List DV)) : anyLoc d (arrRow ys) = false := anyLoc_vs d _
theorem anyTok_arrZ (d : Nat) (ys : List (List DV)) : anyTok d (arrRow ys) = false := anyTok_vs d _
theorem rowLe_arrZ (σ : Nat → Nat) (ys : List (List DV)) : rowLe σ (arrRow ys) (arrRow ys) := rowLe_dv σ _
theorem exRow_arrZ (k b : Nat) (ys : List (List DV)) : exRow k b (arrRow ys) = arrRow ys := by
  unfold arrRow
  generalize ys.flatten = l
  induction l with
  | nil => rfl
  | cons x r ih => simp only [List.map_cons, exRow, ih]; rfl
attribute [go_sem] anyLoc_arrZ anyTok_arrZ exRow_arrZ
theorem nlzRow_arr (ys : List (List DV)) : nlzRow (arrRow ys) = arrRow ys := by
  unfold arrRow
  generalize ys.flatten = l
  induction l with
  | nil => rfl
  | cons x r ih => simp only [List.map_cons, nlzRow, ih]; rfl
theorem arrRow_rd {E : Nat} {full : List (List DV)} (hE : ∀ e ∈ full, e.length = E) {i : Nat} {e : List DV} (h : full[i]? = some e) : toDs (((arrRow full).drop (i * E)).take E) = some e := by
  have he := hE e (List.mem_of_getElem? h)
  have h1 : ((arrRow full).drop (i * E)).take E = e.map SV.v := by
    apply List.ext_getElem?
    intro j
    by_cases hj : j < E
    · rw [List.getElem?_take_of_lt hj, List.getElem?_drop]
      have hje : e[j]? = some (e[j]'(by omega)) := List.getElem?_eq_getElem (by omega)
      simp only [arrRow, List.getElem?_map, flatten_at hE h hje, hje]
    · rw [List.getElem?_eq_none (by simp; omega), List.getElem?_eq_none (by simp; omega)]
  rw [h1]
  exact toDs_map e
theorem arrRow_cell {E : Nat} {full : List (List DV)} (hE : ∀ e ∈ full, e.length = E) {i j : Nat} {e : List DV} {d : DV} (h : full[i]? = some e) (hd : e[j]? = some d) : (arrRow full)[i * E + j]? = some (.v d) := by
  simp only [arrRow, List.getElem?_map, flatten_at hE h hd, Option.map_some]
theorem RS.is.at {x : RS} {E : Nat} {ys : List (List DV)} (h : x.is E ys) {i : Nat} {e : List DV} (he : ys[i]? = some e) : x.full[i]? = some e := by
  have hi := (List.getElem?_eq_some_iff.1 he).1
  have hn := h.n_eq
  rw [← h.els, List.getElem?_take_of_lt (by omega)] at he
  exact he
theorem RS.is.there {x : RS} {E : Nat} {ys : List (List DV)} (h : x.is E ys) (hy : ys ≠ []) : ∃ b, x.q = some b := by
  cases hq : x.q with
  | some b => exact ⟨b, rfl⟩
  | none =>
    have h1 := (h.nil hq).1
    rw [h.n_eq] at h1
    exact absurd (List.length_eq_zero_iff.1 h1) hy
/-- an element is written -/
theorem RS.is.set {x : RS} {E : Nat} {ys : List (List DV)} (h : x.is E ys) {i : Nat} {e : List DV} (hi : i < ys.length) (he : e.length = E) : RS.is ⟨x.q, x.n, x.cap, x.full.set i e⟩ E (ys.set i e) := by
  have hn := h.n_eq
  refine ⟨h.nil, by simpa using h.len, fun z hz => ?_, h.le, ?_⟩
  · rcases List.mem_or_eq_of_mem_set hz with hz | rfl
    · exact h.wid z hz
    · exact he
  · show (x.full.set i e).take x.n = _
    rw [List.take_set, h.els]
theorem put_cell {E : Nat} {ys : List (List DV)} (hE : ∀ e ∈ ys, e.length = E) {i j : Nat} {e : List DV} (hi : ys[i]? = some e) (hj : j < E) (d : DV) : put (arrRow ys) (i * E + j) [.v d] = arrRow (ys.set i (e.set j d)) := by
  have he := hE e (List.mem_of_getElem? hi)
  have hlt := (List.getElem?_eq_some_iff.1 hi).1
  have hmul : i * E + E ≤ ys.length * E := by
    calc i * E + E = (i + 1) * E := by rw [Nat.add_mul, Nat.one_mul]
      _ ≤ ys.length * E := Nat.mul_le_mul_right _ hlt
  have hal := arrRow_len hE
  rw [← put_arr hE hlt (z := e.set j d) (by rw [List.length_set, he])]
  apply List.ext_getElem?
  intro k
  rw [get_put _ _ _ _ (by simp only [List.length_singleton]; omega), get_put _ _ _ _ (by rw [List.length_map, List.length_set, he]; omega)]
  simp only [List.length_singleton, List.length_map, List.length_set, he]
  by_cases h1 : i * E + j ≤ k ∧ k < i * E + j + 1
  · have hk : k = i * E + j := by omega
    subst hk
    rw [if_pos h1, if_pos (by omega), Nat.sub_self, Nat.add_sub_cancel_left, List.getElem?_map, List.getElem?_set_self (by omega)]
    rfl
  · rw [if_neg h1]
    by_cases h2 : i * E ≤ k ∧ k < i * E + E
    · rw [if_pos h2]
      obtain ⟨k', rfl⟩ := Nat.exists_eq_add_of_le h2.1
      rw [Nat.add_sub_cancel_left, List.getElem?_map, List.getElem?_set_ne (by omega)]
      have hk' : e[k']? = some (e[k']'(by omega)) := List.getElem?_eq_getElem (by omega)
      rw [arrRow_cell hE hi hk', hk']
      rfl
    · rw [if_neg h2]
theorem W_le {kk : List Item} {s1 : St} (h : leS s1 s) (hw : W X kk s1) : W X kk s := fun G a w b cs hf hk hr R => hw G a w b cs hf hk hr (R.weaken h)
/-- a state's end is objects but one -/
inductive TailD : St → St → Objs → Nat → Prop
  | nil (φ : Objs) (b : Nat) : TailD (del (heapSt φ) (.heap b)) [] φ b
  | slot {s l : St} {φ : Objs} {b : Nat} (n : Nat) (v : LV) (h : TailD s l φ b) : TailD ((.slot n, v) :: s) ((.slot n, v) :: l) φ b
  | loc {s l : St} {φ : Objs} {b : Nat} (n : Nat) (v : LV) (h : TailD s l φ b) : TailD ((.loc n, v) :: s) ((.loc n, v) :: l) φ b
  | tok {s l : St} {φ : Objs} {b : Nat} (n : Nat) (v : LV) (h : TailD s l φ b) : TailD ((.tok n, v) :: s) ((.tok n, v) :: l) φ b
theorem TailD.spec {s l : St} {φ : Objs} {b : Nat} (h : TailD s l φ b) : s = l ++ del (heapSt φ) (.heap b) ∧ noHeap l = true := by
  induction h with
  | nil φ => exact ⟨rfl, rfl⟩
  | slot n v h ih => exact ⟨by rw [ih.1]; rfl, ih.2⟩
  | loc n v h ih => exact ⟨by rw [ih.1]; rfl, ih.2⟩
  | tok n v h ih => exact ⟨by rw [ih.1]; rfl, ih.2⟩
theorem W_putT {rest l : St} {φ A B : Objs} {b : Nat} {c c' : List DV} {row : List SV} {kk : List Item} (ψ : Objs) (ht : TailD rest l φ b) (hφ : φ = A ++ (b, c) :: B) (hψ : ψ = A ++ (b, c') :: B) (hnd : (φ.map (·.1)).Nodup) (hrow : row = c'.map SV.v)
    (h : (ψ.map (·.1)).Nodup → W X kk (l ++ heapSt ψ)) : W X kk ((.heap b, .row row) :: rest) := by
  subst hφ hψ hrow
  obtain ⟨hs, hh⟩ := ht.spec
  obtain ⟨k1, k2⟩ := upd_objs (c' := c') hh hnd
  refine W_le (fun m v hm => ?_) (h k2)
  have h1 := k1 m v hm
  rw [get_upd] at h1
  rw [hs]
  simp only [get]
  split
  · rename_i e; rw [if_pos e] at h1; exact h1
  · rename_i e
    rw [if_neg e, get_append] at h1
    rw [get_append, get_del, if_neg e]
    exact h1
end
end Go.Proofs.YtmdjiajbnifjpaaDoor.Lift

