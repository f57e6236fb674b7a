/- Closed facts on the seat's types, printed by genfacts.py (a program of mine) off the loaded program; each is checked by the kernel. -/
import Derived.Test.YtdhifabhjlbjiaaProg
import Derived.KernelRfl
import Derived.Test.YtdhifabhjlbjiaaIdlThree
set_option linter.all false
namespace Go.Idl
open Go.Proofs
theorem mixed : Try.prog.follows .mixedOrders = true := by kernel_rfl
theorem kindD0 : kindD Try.prog 0 = some false := by kernel_rfl
theorem sizeD0 : sizeD Try.prog 0 = 1 := by kernel_rfl
theorem zeroV0 : zeroVs Try.prog 0 = some [V.un] := by kernel_rfl
theorem zvo0 : zeroV Try.prog 0 = some V.un := by kernel_rfl
theorem kindD1 : kindD Try.prog 1 = some false := by kernel_rfl
theorem sizeD1 : sizeD Try.prog 1 = 1 := by kernel_rfl
theorem zeroV1 : zeroVs Try.prog 1 = some [V.d (D.con Value.nilFunc)] := by kernel_rfl
theorem zc1 : zeroCs Try.prog 1 = some [D.con Value.nilFunc] := by kernel_rfl
theorem zl1 : ((Try.prog.info? 1).bind (·.zero)).elim 0 (fun x => x.cells.size) = (zeroCs Try.prog 1).elim 0 List.length := by kernel_rfl
theorem zvo1 : zeroV Try.prog 1 = some (V.d (D.con Value.nilFunc)) := by kernel_rfl
theorem u2 : Try.prog.underlying 2 = some (.int .i64) := by kernel_rfl
theorem kindD2 : kindD Try.prog 2 = some false := by kernel_rfl
theorem sizeD2 : sizeD Try.prog 2 = 1 := by kernel_rfl
theorem zeroV2 : zeroVs Try.prog 2 = some [V.d (D.int .i64 0)] := by kernel_rfl
theorem zc2 : zeroCs Try.prog 2 = some [D.int .i64 0] := by kernel_rfl
theorem zl2 : ((Try.prog.info? 2).bind (·.zero)).elim 0 (fun x => x.cells.size) = (zeroCs Try.prog 2).elim 0 List.length := by kernel_rfl
theorem zvo2 : zeroV Try.prog 2 = some (V.d (D.int .i64 0)) := by kernel_rfl
theorem u3 : Try.prog.underlying 3 = some (.int .i64) := by kernel_rfl
theorem kindD3 : kindD Try.prog 3 = some false := by kernel_rfl
theorem sizeD3 : sizeD Try.prog 3 = 1 := by kernel_rfl
theorem zeroV3 : zeroVs Try.prog 3 = some [V.d (D.int .i64 0)] := by kernel_rfl
theorem zc3 : zeroCs Try.prog 3 = some [D.int .i64 0] := by kernel_rfl
theorem zl3 : ((Try.prog.info? 3).bind (·.zero)).elim 0 (fun x => x.cells.size) = (zeroCs Try.prog 3).elim 0 List.length := by kernel_rfl
theorem zvo3 : zeroV Try.prog 3 = some (V.d (D.int .i64 0)) := by kernel_rfl
theorem u4 : Try.prog.underlying 4 = some .bool := by kernel_rfl
theorem kindD4 : kindD Try.prog 4 = some false := by kernel_rfl
theorem sizeD4 : sizeD Try.prog 4 = 1 := by kernel_rfl
theorem zeroV4 : zeroVs Try.prog 4 = some [V.d (D.bool false)] := by kernel_rfl
theorem zc4 : zeroCs Try.prog 4 = some [D.bool false] := by kernel_rfl
theorem zl4 : ((Try.prog.info? 4).bind (·.zero)).elim 0 (fun x => x.cells.size) = (zeroCs Try.prog 4).elim 0 List.length := by kernel_rfl
theorem zvo4 : zeroV Try.prog 4 = some (V.d (D.bool false)) := by kernel_rfl
theorem u5 : Try.prog.underlying 5 = some (.int .u8) := by kernel_rfl
theorem kindD5 : kindD Try.prog 5 = some false := by kernel_rfl
theorem sizeD5 : sizeD Try.prog 5 = 1 := by kernel_rfl
theorem zeroV5 : zeroVs Try.prog 5 = some [V.d (D.int .u8 0)] := by kernel_rfl
theorem zc5 : zeroCs Try.prog 5 = some [D.int .u8 0] := by kernel_rfl
theorem zl5 : ((Try.prog.info? 5).bind (·.zero)).elim 0 (fun x => x.cells.size) = (zeroCs Try.prog 5).elim 0 List.length := by kernel_rfl
theorem zvo5 : zeroV Try.prog 5 = some (V.d (D.int .u8 0)) := by kernel_rfl
theorem u6 : Try.prog.underlying 6 = some (.int .u8) := by kernel_rfl
theorem kindD6 : kindD Try.prog 6 = some false := by kernel_rfl
theorem sizeD6 : sizeD Try.prog 6 = 1 := by kernel_rfl
theorem zeroV6 : zeroVs Try.prog 6 = some [V.d (D.int .u8 0)] := by kernel_rfl
theorem zc6 : zeroCs Try.prog 6 = some [D.int .u8 0] := by kernel_rfl
theorem zl6 : ((Try.prog.info? 6).bind (·.zero)).elim 0 (fun x => x.cells.size) = (zeroCs Try.prog 6).elim 0 List.length := by kernel_rfl
theorem zvo6 : zeroV Try.prog 6 = some (V.d (D.int .u8 0)) := by kernel_rfl
theorem kindD7 : kindD Try.prog 7 = some true := by kernel_rfl
theorem sizeD7 : sizeD Try.prog 7 = 4 := by kernel_rfl
theorem zeroV7 : zeroVs Try.prog 7 = some [V.d (D.int .i64 0), V.d (D.int .i64 0), V.d (D.bool false), V.d (D.int .u8 0)] := by kernel_rfl
theorem zc7 : zeroCs Try.prog 7 = some [D.int .i64 0, D.int .i64 0, D.bool false, D.int .u8 0] := by kernel_rfl
theorem zl7 : ((Try.prog.info? 7).bind (·.zero)).elim 0 (fun x => x.cells.size) = (zeroCs Try.prog 7).elim 0 List.length := by kernel_rfl
theorem place7 : placesD Try.prog 7 = some [(0, 1), (1, 1), (2, 1), (3, 1)] := by kernel_rfl
theorem zvo7 : zeroV Try.prog 7 = some (V.d (D.agg [D.int .i64 0, D.int .i64 0, D.bool false, D.int .u8 0])) := by kernel_rfl
theorem leaf7 : leafOffs Try.prog 8 7 = some [(0, 0), (1, 0), (2, 1), (3, 0)] := by kernel_rfl
theorem eqg7 : Try.prog.eqGuardType Try.prog.depth 7 = false := by kernel_rfl
theorem fo7_0 : fieldOff Try.prog 7 0 = some (0, 2) := by kernel_rfl
theorem fo7_1 : fieldOff Try.prog 7 1 = some (1, 3) := by kernel_rfl
theorem fo7_2 : fieldOff Try.prog 7 2 = some (2, 4) := by kernel_rfl
theorem fo7_3 : fieldOff Try.prog 7 3 = some (3, 6) := by kernel_rfl
theorem kindD8 : kindD Try.prog 8 = some true := by kernel_rfl
theorem sizeD8 : sizeD Try.prog 8 = 4 := by kernel_rfl
theorem zeroV8 : zeroVs Try.prog 8 = some [V.d (D.int .i64 0), V.d (D.int .i64 0), V.d (D.bool false), V.d (D.int .u8 0)] := by kernel_rfl
theorem zc8 : zeroCs Try.prog 8 = some [D.int .i64 0, D.int .i64 0, D.bool false, D.int .u8 0] := by kernel_rfl
theorem zl8 : ((Try.prog.info? 8).bind (·.zero)).elim 0 (fun x => x.cells.size) = (zeroCs Try.prog 8).elim 0 List.length := by kernel_rfl
theorem place8 : placesD Try.prog 8 = some [(0, 1), (1, 1), (2, 1), (3, 1)] := by kernel_rfl
theorem zvo8 : zeroV Try.prog 8 = some (V.d (D.agg [D.int .i64 0, D.int .i64 0, D.bool false, D.int .u8 0])) := by kernel_rfl
theorem leaf8 : leafOffs Try.prog 8 8 = some [(0, 0), (1, 0), (2, 1), (3, 0)] := by kernel_rfl
theorem eqg8 : Try.prog.eqGuardType Try.prog.depth 8 = false := by kernel_rfl
theorem fo8_0 : fieldOff Try.prog 8 0 = some (0, 2) := by kernel_rfl
theorem fo8_1 : fieldOff Try.prog 8 1 = some (1, 3) := by kernel_rfl
theorem fo8_2 : fieldOff Try.prog 8 2 = some (2, 4) := by kernel_rfl
theorem fo8_3 : fieldOff Try.prog 8 3 = some (3, 6) := by kernel_rfl
theorem u9 : Try.prog.underlying 9 = some .string := by kernel_rfl
theorem kindD9 : kindD Try.prog 9 = some false := by kernel_rfl
theorem sizeD9 : sizeD Try.prog 9 = 1 := by kernel_rfl
theorem zeroV9 : zeroVs Try.prog 9 = some [V.d (D.str { data := { toList := [] } })] := by kernel_rfl
theorem zc9 : zeroCs Try.prog 9 = some [D.str { data := { toList := [] } }] := by kernel_rfl
theorem zl9 : ((Try.prog.info? 9).bind (·.zero)).elim 0 (fun x => x.cells.size) = (zeroCs Try.prog 9).elim 0 List.length := by kernel_rfl
theorem zvo9 : zeroV Try.prog 9 = some (V.d (D.str { data := { toList := [] } })) := by kernel_rfl
theorem u10 : Try.prog.underlying 10 = some .string := by kernel_rfl
theorem kindD10 : kindD Try.prog 10 = some false := by kernel_rfl
theorem sizeD10 : sizeD Try.prog 10 = 1 := by kernel_rfl
theorem zeroV10 : zeroVs Try.prog 10 = some [V.d (D.str { data := { toList := [] } })] := by kernel_rfl
theorem zc10 : zeroCs Try.prog 10 = some [D.str { data := { toList := [] } }] := by kernel_rfl
theorem zl10 : ((Try.prog.info? 10).bind (·.zero)).elim 0 (fun x => x.cells.size) = (zeroCs Try.prog 10).elim 0 List.length := by kernel_rfl
theorem zvo10 : zeroV Try.prog 10 = some (V.d (D.str { data := { toList := [] } })) := by kernel_rfl
theorem u11 : Try.prog.underlying 11 = some .string := by kernel_rfl
theorem kindD11 : kindD Try.prog 11 = some false := by kernel_rfl
theorem sizeD11 : sizeD Try.prog 11 = 1 := by kernel_rfl
theorem zeroV11 : zeroVs Try.prog 11 = some [V.d (D.str { data := { toList := [] } })] := by kernel_rfl
theorem zc11 : zeroCs Try.prog 11 = some [D.str { data := { toList := [] } }] := by kernel_rfl
theorem zl11 : ((Try.prog.info? 11).bind (·.zero)).elim 0 (fun x => x.cells.size) = (zeroCs Try.prog 11).elim 0 List.length := by kernel_rfl
theorem zvo11 : zeroV Try.prog 11 = some (V.d (D.str { data := { toList := [] } })) := by kernel_rfl
theorem u12 : Try.prog.underlying 12 = some (.int .u64) := by kernel_rfl
theorem kindD12 : kindD Try.prog 12 = some false := by kernel_rfl
theorem sizeD12 : sizeD Try.prog 12 = 1 := by kernel_rfl
theorem zeroV12 : zeroVs Try.prog 12 = some [V.d (D.int .u64 0)] := by kernel_rfl
theorem zc12 : zeroCs Try.prog 12 = some [D.int .u64 0] := by kernel_rfl
theorem zl12 : ((Try.prog.info? 12).bind (·.zero)).elim 0 (fun x => x.cells.size) = (zeroCs Try.prog 12).elim 0 List.length := by kernel_rfl
theorem zvo12 : zeroV Try.prog 12 = some (V.d (D.int .u64 0)) := by kernel_rfl
theorem kindD13 : kindD Try.prog 13 = some true := by kernel_rfl
theorem sizeD13 : sizeD Try.prog 13 = 2 := by kernel_rfl
theorem zeroV13 : zeroVs Try.prog 13 = some [V.d (D.str { data := { toList := [] } }), V.d (D.int .u64 0)] := by kernel_rfl
theorem zc13 : zeroCs Try.prog 13 = some [D.str { data := { toList := [] } }, D.int .u64 0] := by kernel_rfl
theorem zl13 : ((Try.prog.info? 13).bind (·.zero)).elim 0 (fun x => x.cells.size) = (zeroCs Try.prog 13).elim 0 List.length := by kernel_rfl
theorem place13 : placesD Try.prog 13 = some [(0, 1), (1, 1)] := by kernel_rfl
theorem zvo13 : zeroV Try.prog 13 = some (V.d (D.agg [D.str { data := { toList := [] } }, D.int .u64 0])) := by kernel_rfl
theorem eqg13 : Try.prog.eqGuardType Try.prog.depth 13 = false := by kernel_rfl
theorem fo13_0 : fieldOff Try.prog 13 0 = some (0, 9) := by kernel_rfl
theorem fo13_1 : fieldOff Try.prog 13 1 = some (1, 12) := by kernel_rfl
theorem kindD14 : kindD Try.prog 14 = some true := by kernel_rfl
theorem sizeD14 : sizeD Try.prog 14 = 2 := by kernel_rfl
theorem zeroV14 : zeroVs Try.prog 14 = some [V.d (D.str { data := { toList := [] } }), V.d (D.int .u64 0)] := by kernel_rfl
theorem zc14 : zeroCs Try.prog 14 = some [D.str { data := { toList := [] } }, D.int .u64 0] := by kernel_rfl
theorem zl14 : ((Try.prog.info? 14).bind (·.zero)).elim 0 (fun x => x.cells.size) = (zeroCs Try.prog 14).elim 0 List.length := by kernel_rfl
theorem place14 : placesD Try.prog 14 = some [(0, 1), (1, 1)] := by kernel_rfl
theorem zvo14 : zeroV Try.prog 14 = some (V.d (D.agg [D.str { data := { toList := [] } }, D.int .u64 0])) := by kernel_rfl
theorem eqg14 : Try.prog.eqGuardType Try.prog.depth 14 = false := by kernel_rfl
theorem fo14_0 : fieldOff Try.prog 14 0 = some (0, 9) := by kernel_rfl
theorem fo14_1 : fieldOff Try.prog 14 1 = some (1, 12) := by kernel_rfl
theorem kindD15 : kindD Try.prog 15 = some false := by kernel_rfl
theorem sizeD15 : sizeD Try.prog 15 = 1 := by kernel_rfl
theorem zeroV15 : zeroVs Try.prog 15 = some [V.d (D.con (Value.pointer none))] := by kernel_rfl
theorem zc15 : zeroCs Try.prog 15 = some [D.con (Value.pointer none)] := by kernel_rfl
theorem zl15 : ((Try.prog.info? 15).bind (·.zero)).elim 0 (fun x => x.cells.size) = (zeroCs Try.prog 15).elim 0 List.length := by kernel_rfl
theorem isp15 : isPtr Try.prog 15 = true := by kernel_rfl
theorem zvo15 : zeroV Try.prog 15 = some (V.d (D.con (Value.pointer none))) := by kernel_rfl
theorem kindD16 : kindD Try.prog 16 = some false := by kernel_rfl
theorem sizeD16 : sizeD Try.prog 16 = 1 := by kernel_rfl
theorem zeroV16 : zeroVs Try.prog 16 = some [V.d (D.con (Value.pointer none))] := by kernel_rfl
theorem zc16 : zeroCs Try.prog 16 = some [D.con (Value.pointer none)] := by kernel_rfl
theorem zl16 : ((Try.prog.info? 16).bind (·.zero)).elim 0 (fun x => x.cells.size) = (zeroCs Try.prog 16).elim 0 List.length := by kernel_rfl
theorem isp16 : isPtr Try.prog 16 = true := by kernel_rfl
theorem zvo16 : zeroV Try.prog 16 = some (V.d (D.con (Value.pointer none))) := by kernel_rfl
theorem kindD17 : kindD Try.prog 17 = some false := by kernel_rfl
theorem sizeD17 : sizeD Try.prog 17 = 1 := by kernel_rfl
theorem zeroV17 : zeroVs Try.prog 17 = some [V.d (D.con (Value.pointer none))] := by kernel_rfl
theorem zc17 : zeroCs Try.prog 17 = some [D.con (Value.pointer none)] := by kernel_rfl
theorem zl17 : ((Try.prog.info? 17).bind (·.zero)).elim 0 (fun x => x.cells.size) = (zeroCs Try.prog 17).elim 0 List.length := by kernel_rfl
theorem isp17 : isPtr Try.prog 17 = true := by kernel_rfl
theorem zvo17 : zeroV Try.prog 17 = some (V.d (D.con (Value.pointer none))) := by kernel_rfl
theorem kindD18 : kindD Try.prog 18 = some true := by kernel_rfl
theorem sizeD18 : sizeD Try.prog 18 = 1 := by kernel_rfl
theorem zeroV18 : zeroVs Try.prog 18 = some [V.d (D.con (Value.pointer none))] := by kernel_rfl
theorem zc18 : zeroCs Try.prog 18 = some [D.con (Value.pointer none)] := by kernel_rfl
theorem zl18 : ((Try.prog.info? 18).bind (·.zero)).elim 0 (fun x => x.cells.size) = (zeroCs Try.prog 18).elim 0 List.length := by kernel_rfl
theorem place18 : placesD Try.prog 18 = some [(0, 1)] := by kernel_rfl
theorem zvo18 : zeroV Try.prog 18 = some (V.d (D.agg [D.con (Value.pointer none)])) := by kernel_rfl
theorem eqg18 : Try.prog.eqGuardType Try.prog.depth 18 = false := by kernel_rfl
theorem fo18_0 : fieldOff Try.prog 18 0 = some (0, 17) := by kernel_rfl
theorem kindD19 : kindD Try.prog 19 = some true := by kernel_rfl
theorem sizeD19 : sizeD Try.prog 19 = 1 := by kernel_rfl
theorem zeroV19 : zeroVs Try.prog 19 = some [V.d (D.con (Value.pointer none))] := by kernel_rfl
theorem zc19 : zeroCs Try.prog 19 = some [D.con (Value.pointer none)] := by kernel_rfl
theorem zl19 : ((Try.prog.info? 19).bind (·.zero)).elim 0 (fun x => x.cells.size) = (zeroCs Try.prog 19).elim 0 List.length := by kernel_rfl
theorem place19 : placesD Try.prog 19 = some [(0, 1)] := by kernel_rfl
theorem zvo19 : zeroV Try.prog 19 = some (V.d (D.agg [D.con (Value.pointer none)])) := by kernel_rfl
theorem eqg19 : Try.prog.eqGuardType Try.prog.depth 19 = false := by kernel_rfl
theorem fo19_0 : fieldOff Try.prog 19 0 = some (0, 17) := by kernel_rfl
theorem kindD20 : kindD Try.prog 20 = some false := by kernel_rfl
theorem sizeD20 : sizeD Try.prog 20 = 1 := by kernel_rfl
theorem zeroV20 : zeroVs Try.prog 20 = some [V.d (D.con Value.nilIface)] := by kernel_rfl
theorem zc20 : zeroCs Try.prog 20 = some [D.con Value.nilIface] := by kernel_rfl
theorem zl20 : ((Try.prog.info? 20).bind (·.zero)).elim 0 (fun x => x.cells.size) = (zeroCs Try.prog 20).elim 0 List.length := by kernel_rfl
theorem zvo20 : zeroV Try.prog 20 = some (V.d (D.con Value.nilIface)) := by kernel_rfl
theorem u21 : Try.prog.underlying 21 = some (.int .i32) := by kernel_rfl
theorem kindD21 : kindD Try.prog 21 = some false := by kernel_rfl
theorem sizeD21 : sizeD Try.prog 21 = 1 := by kernel_rfl
theorem zeroV21 : zeroVs Try.prog 21 = some [V.d (D.int .i32 0)] := by kernel_rfl
theorem zc21 : zeroCs Try.prog 21 = some [D.int .i32 0] := by kernel_rfl
theorem zl21 : ((Try.prog.info? 21).bind (·.zero)).elim 0 (fun x => x.cells.size) = (zeroCs Try.prog 21).elim 0 List.length := by kernel_rfl
theorem zvo21 : zeroV Try.prog 21 = some (V.d (D.int .i32 0)) := by kernel_rfl
theorem u22 : Try.prog.underlying 22 = some (.slice 43) := by kernel_rfl
theorem kindD22 : kindD Try.prog 22 = some false := by kernel_rfl
theorem sizeD22 : sizeD Try.prog 22 = 1 := by kernel_rfl
theorem elI22 : elI Try.prog 22 = some (7, 56) := by kernel_rfl
theorem elemT22 : elemTy Try.prog 22 = some 43 := by kernel_rfl
theorem esz22 : elemSz Try.prog 22 = 7 := by kernel_rfl
theorem zeroV22 : zeroVs Try.prog 22 = some [V.nil 7] := by kernel_rfl
theorem zc22 : zeroCs Try.prog 22 = some [D.sl false 7 []] := by kernel_rfl
theorem zl22 : ((Try.prog.info? 22).bind (·.zero)).elim 0 (fun x => x.cells.size) = (zeroCs Try.prog 22).elim 0 List.length := by kernel_rfl
theorem zvo22 : zeroV Try.prog 22 = some (V.nil 7) := by kernel_rfl
theorem u23 : Try.prog.underlying 23 = some (.slice 93) := by kernel_rfl
theorem kindD23 : kindD Try.prog 23 = some false := by kernel_rfl
theorem sizeD23 : sizeD Try.prog 23 = 1 := by kernel_rfl
theorem elI23 : elI Try.prog 23 = some (5, 40) := by kernel_rfl
theorem elemT23 : elemTy Try.prog 23 = some 93 := by kernel_rfl
theorem esz23 : elemSz Try.prog 23 = 5 := by kernel_rfl
theorem zeroV23 : zeroVs Try.prog 23 = some [V.nil 5] := by kernel_rfl
theorem zc23 : zeroCs Try.prog 23 = some [D.sl false 5 []] := by kernel_rfl
theorem zl23 : ((Try.prog.info? 23).bind (·.zero)).elim 0 (fun x => x.cells.size) = (zeroCs Try.prog 23).elim 0 List.length := by kernel_rfl
theorem zvo23 : zeroV Try.prog 23 = some (V.nil 5) := by kernel_rfl
theorem u24 : Try.prog.underlying 24 = some (.slice 95) := by kernel_rfl
theorem kindD24 : kindD Try.prog 24 = some false := by kernel_rfl
theorem sizeD24 : sizeD Try.prog 24 = 1 := by kernel_rfl
theorem elI24 : elI Try.prog 24 = some (7, 72) := by kernel_rfl
theorem elemT24 : elemTy Try.prog 24 = some 95 := by kernel_rfl
theorem esz24 : elemSz Try.prog 24 = 7 := by kernel_rfl
theorem zeroV24 : zeroVs Try.prog 24 = some [V.nil 7] := by kernel_rfl
theorem zc24 : zeroCs Try.prog 24 = some [D.sl false 7 []] := by kernel_rfl
theorem zl24 : ((Try.prog.info? 24).bind (·.zero)).elim 0 (fun x => x.cells.size) = (zeroCs Try.prog 24).elim 0 List.length := by kernel_rfl
theorem zvo24 : zeroV Try.prog 24 = some (V.nil 7) := by kernel_rfl
theorem u25 : Try.prog.underlying 25 = some (.slice 86) := by kernel_rfl
theorem kindD25 : kindD Try.prog 25 = some false := by kernel_rfl
theorem sizeD25 : sizeD Try.prog 25 = 1 := by kernel_rfl
theorem elI25 : elI Try.prog 25 = some (8, 80) := by kernel_rfl
theorem elemT25 : elemTy Try.prog 25 = some 86 := by kernel_rfl
theorem esz25 : elemSz Try.prog 25 = 8 := by kernel_rfl
theorem zeroV25 : zeroVs Try.prog 25 = some [V.nil 8] := by kernel_rfl
theorem zc25 : zeroCs Try.prog 25 = some [D.sl false 8 []] := by kernel_rfl
theorem zl25 : ((Try.prog.info? 25).bind (·.zero)).elim 0 (fun x => x.cells.size) = (zeroCs Try.prog 25).elim 0 List.length := by kernel_rfl
theorem zvo25 : zeroV Try.prog 25 = some (V.nil 8) := by kernel_rfl
theorem u26 : Try.prog.underlying 26 = some (.slice 112) := by kernel_rfl
theorem kindD26 : kindD Try.prog 26 = some false := by kernel_rfl
theorem sizeD26 : sizeD Try.prog 26 = 1 := by kernel_rfl
theorem elI26 : elI Try.prog 26 = some (2, 16) := by kernel_rfl
theorem elemT26 : elemTy Try.prog 26 = some 112 := by kernel_rfl
theorem esz26 : elemSz Try.prog 26 = 2 := by kernel_rfl
theorem zeroV26 : zeroVs Try.prog 26 = some [V.nil 2] := by kernel_rfl
theorem zc26 : zeroCs Try.prog 26 = some [D.sl false 2 []] := by kernel_rfl
theorem zl26 : ((Try.prog.info? 26).bind (·.zero)).elim 0 (fun x => x.cells.size) = (zeroCs Try.prog 26).elim 0 List.length := by kernel_rfl
theorem zvo26 : zeroV Try.prog 26 = some (V.nil 2) := by kernel_rfl
theorem kindD27 : kindD Try.prog 27 = some true := by kernel_rfl
theorem sizeD27 : sizeD Try.prog 27 = 8 := by kernel_rfl
theorem zeroV27 : zeroVs Try.prog 27 = some [V.d (D.int .i64 0), V.d (D.int .i64 0), V.d (D.int .i64 0), V.nil 7, V.nil 5, V.nil 7, V.nil 8, V.nil 2] := by kernel_rfl
theorem zc27 : zeroCs Try.prog 27 = some [D.int .i64 0, D.int .i64 0, D.int .i64 0, D.sl false 7 [], D.sl false 5 [], D.sl false 7 [], D.sl false 8 [], D.sl false 2 []] := by kernel_rfl
theorem zl27 : ((Try.prog.info? 27).bind (·.zero)).elim 0 (fun x => x.cells.size) = (zeroCs Try.prog 27).elim 0 List.length := by kernel_rfl
theorem place27 : placesD Try.prog 27 = some [(0, 1), (1, 1), (2, 1), (3, 1), (4, 1), (5, 1), (6, 1), (7, 1)] := by kernel_rfl
theorem zvo27 : zeroV Try.prog 27 = some (V.d (D.agg [D.int .i64 0, D.int .i64 0, D.int .i64 0, D.sl false 7 [], D.sl false 5 [], D.sl false 7 [], D.sl false 8 [], D.sl false 2 []])) := by kernel_rfl
theorem eqg27 : Try.prog.eqGuardType Try.prog.depth 27 = false := by kernel_rfl
theorem fo27_0 : fieldOff Try.prog 27 0 = some (0, 2) := by kernel_rfl
theorem fo27_1 : fieldOff Try.prog 27 1 = some (1, 2) := by kernel_rfl
theorem fo27_2 : fieldOff Try.prog 27 2 = some (2, 2) := by kernel_rfl
theorem fo27_3 : fieldOff Try.prog 27 3 = some (3, 22) := by kernel_rfl
theorem fo27_4 : fieldOff Try.prog 27 4 = some (4, 23) := by kernel_rfl
theorem fo27_5 : fieldOff Try.prog 27 5 = some (5, 24) := by kernel_rfl
theorem fo27_6 : fieldOff Try.prog 27 6 = some (6, 25) := by kernel_rfl
theorem fo27_7 : fieldOff Try.prog 27 7 = some (7, 26) := by kernel_rfl
theorem kindD28 : kindD Try.prog 28 = some true := by kernel_rfl
theorem sizeD28 : sizeD Try.prog 28 = 8 := by kernel_rfl
theorem zeroV28 : zeroVs Try.prog 28 = some [V.d (D.int .i64 0), V.d (D.int .i64 0), V.d (D.int .i64 0), V.nil 7, V.nil 5, V.nil 7, V.nil 8, V.nil 2] := by kernel_rfl
theorem zc28 : zeroCs Try.prog 28 = some [D.int .i64 0, D.int .i64 0, D.int .i64 0, D.sl false 7 [], D.sl false 5 [], D.sl false 7 [], D.sl false 8 [], D.sl false 2 []] := by kernel_rfl
theorem zl28 : ((Try.prog.info? 28).bind (·.zero)).elim 0 (fun x => x.cells.size) = (zeroCs Try.prog 28).elim 0 List.length := by kernel_rfl
theorem place28 : placesD Try.prog 28 = some [(0, 1), (1, 1), (2, 1), (3, 1), (4, 1), (5, 1), (6, 1), (7, 1)] := by kernel_rfl
theorem zvo28 : zeroV Try.prog 28 = some (V.d (D.agg [D.int .i64 0, D.int .i64 0, D.int .i64 0, D.sl false 7 [], D.sl false 5 [], D.sl false 7 [], D.sl false 8 [], D.sl false 2 []])) := by kernel_rfl
theorem eqg28 : Try.prog.eqGuardType Try.prog.depth 28 = false := by kernel_rfl
theorem fo28_0 : fieldOff Try.prog 28 0 = some (0, 2) := by kernel_rfl
theorem fo28_1 : fieldOff Try.prog 28 1 = some (1, 2) := by kernel_rfl
theorem fo28_2 : fieldOff Try.prog 28 2 = some (2, 2) := by kernel_rfl
theorem fo28_3 : fieldOff Try.prog 28 3 = some (3, 22) := by kernel_rfl
theorem fo28_4 : fieldOff Try.prog 28 4 = some (4, 23) := by kernel_rfl
theorem fo28_5 : fieldOff Try.prog 28 5 = some (5, 24) := by kernel_rfl
theorem fo28_6 : fieldOff Try.prog 28 6 = some (6, 25) := by kernel_rfl
theorem fo28_7 : fieldOff Try.prog 28 7 = some (7, 26) := by kernel_rfl
theorem kindD29 : kindD Try.prog 29 = some false := by kernel_rfl
theorem sizeD29 : sizeD Try.prog 29 = 1 := by kernel_rfl
theorem zeroV29 : zeroVs Try.prog 29 = some [V.d (D.con Value.nilFunc)] := by kernel_rfl
theorem zc29 : zeroCs Try.prog 29 = some [D.con Value.nilFunc] := by kernel_rfl
theorem zl29 : ((Try.prog.info? 29).bind (·.zero)).elim 0 (fun x => x.cells.size) = (zeroCs Try.prog 29).elim 0 List.length := by kernel_rfl
theorem zvo29 : zeroV Try.prog 29 = some (V.d (D.con Value.nilFunc)) := by kernel_rfl
theorem kindD30 : kindD Try.prog 30 = some false := by kernel_rfl
theorem sizeD30 : sizeD Try.prog 30 = 1 := by kernel_rfl
theorem zeroV30 : zeroVs Try.prog 30 = some [V.d (D.con Value.nilFunc)] := by kernel_rfl
theorem zc30 : zeroCs Try.prog 30 = some [D.con Value.nilFunc] := by kernel_rfl
theorem zl30 : ((Try.prog.info? 30).bind (·.zero)).elim 0 (fun x => x.cells.size) = (zeroCs Try.prog 30).elim 0 List.length := by kernel_rfl
theorem zvo30 : zeroV Try.prog 30 = some (V.d (D.con Value.nilFunc)) := by kernel_rfl
theorem u31 : Try.prog.underlying 31 = some (.slice 39) := by kernel_rfl
theorem kindD31 : kindD Try.prog 31 = some false := by kernel_rfl
theorem sizeD31 : sizeD Try.prog 31 = 1 := by kernel_rfl
theorem elI31 : elI Try.prog 31 = some (2, 16) := by kernel_rfl
theorem elemT31 : elemTy Try.prog 31 = some 39 := by kernel_rfl
theorem esz31 : elemSz Try.prog 31 = 2 := by kernel_rfl
theorem zeroV31 : zeroVs Try.prog 31 = some [V.nil 2] := by kernel_rfl
theorem zc31 : zeroCs Try.prog 31 = some [D.sl false 2 []] := by kernel_rfl
theorem zl31 : ((Try.prog.info? 31).bind (·.zero)).elim 0 (fun x => x.cells.size) = (zeroCs Try.prog 31).elim 0 List.length := by kernel_rfl
theorem zvo31 : zeroV Try.prog 31 = some (V.nil 2) := by kernel_rfl
theorem kindD32 : kindD Try.prog 32 = some false := by kernel_rfl
theorem sizeD32 : sizeD Try.prog 32 = 1 := by kernel_rfl
theorem zeroV32 : zeroVs Try.prog 32 = some [V.d (D.con Value.nilFunc)] := by kernel_rfl
theorem zc32 : zeroCs Try.prog 32 = some [D.con Value.nilFunc] := by kernel_rfl
theorem zl32 : ((Try.prog.info? 32).bind (·.zero)).elim 0 (fun x => x.cells.size) = (zeroCs Try.prog 32).elim 0 List.length := by kernel_rfl
theorem zvo32 : zeroV Try.prog 32 = some (V.d (D.con Value.nilFunc)) := by kernel_rfl
theorem kindD33 : kindD Try.prog 33 = some false := by kernel_rfl
theorem sizeD33 : sizeD Try.prog 33 = 1 := by kernel_rfl
theorem zeroV33 : zeroVs Try.prog 33 = some [V.d (D.con Value.nilFunc)] := by kernel_rfl
theorem zc33 : zeroCs Try.prog 33 = some [D.con Value.nilFunc] := by kernel_rfl
theorem zl33 : ((Try.prog.info? 33).bind (·.zero)).elim 0 (fun x => x.cells.size) = (zeroCs Try.prog 33).elim 0 List.length := by kernel_rfl
theorem zvo33 : zeroV Try.prog 33 = some (V.d (D.con Value.nilFunc)) := by kernel_rfl
theorem u34 : Try.prog.underlying 34 = some (.slice 107) := by kernel_rfl
theorem kindD34 : kindD Try.prog 34 = some false := by kernel_rfl
theorem sizeD34 : sizeD Try.prog 34 = 1 := by kernel_rfl
theorem elI34 : elI Try.prog 34 = some (2, 16) := by kernel_rfl
theorem elemT34 : elemTy Try.prog 34 = some 107 := by kernel_rfl
theorem esz34 : elemSz Try.prog 34 = 2 := by kernel_rfl
theorem zeroV34 : zeroVs Try.prog 34 = some [V.nil 2] := by kernel_rfl
theorem zc34 : zeroCs Try.prog 34 = some [D.sl false 2 []] := by kernel_rfl
theorem zl34 : ((Try.prog.info? 34).bind (·.zero)).elim 0 (fun x => x.cells.size) = (zeroCs Try.prog 34).elim 0 List.length := by kernel_rfl
theorem zvo34 : zeroV Try.prog 34 = some (V.nil 2) := by kernel_rfl
theorem kindD35 : kindD Try.prog 35 = some false := by kernel_rfl
theorem sizeD35 : sizeD Try.prog 35 = 1 := by kernel_rfl
theorem zeroV35 : zeroVs Try.prog 35 = some [V.d (D.con Value.nilFunc)] := by kernel_rfl
theorem zc35 : zeroCs Try.prog 35 = some [D.con Value.nilFunc] := by kernel_rfl
theorem zl35 : ((Try.prog.info? 35).bind (·.zero)).elim 0 (fun x => x.cells.size) = (zeroCs Try.prog 35).elim 0 List.length := by kernel_rfl
theorem zvo35 : zeroV Try.prog 35 = some (V.d (D.con Value.nilFunc)) := by kernel_rfl
theorem kindD36 : kindD Try.prog 36 = some false := by kernel_rfl
theorem sizeD36 : sizeD Try.prog 36 = 1 := by kernel_rfl
theorem zeroV36 : zeroVs Try.prog 36 = some [V.d (D.con Value.nilFunc)] := by kernel_rfl
theorem zc36 : zeroCs Try.prog 36 = some [D.con Value.nilFunc] := by kernel_rfl
theorem zl36 : ((Try.prog.info? 36).bind (·.zero)).elim 0 (fun x => x.cells.size) = (zeroCs Try.prog 36).elim 0 List.length := by kernel_rfl
theorem zvo36 : zeroV Try.prog 36 = some (V.d (D.con Value.nilFunc)) := by kernel_rfl
theorem kindD37 : kindD Try.prog 37 = some false := by kernel_rfl
theorem sizeD37 : sizeD Try.prog 37 = 1 := by kernel_rfl
theorem zeroV37 : zeroVs Try.prog 37 = some [V.d (D.con Value.nilFunc)] := by kernel_rfl
theorem zc37 : zeroCs Try.prog 37 = some [D.con Value.nilFunc] := by kernel_rfl
theorem zl37 : ((Try.prog.info? 37).bind (·.zero)).elim 0 (fun x => x.cells.size) = (zeroCs Try.prog 37).elim 0 List.length := by kernel_rfl
theorem zvo37 : zeroV Try.prog 37 = some (V.d (D.con Value.nilFunc)) := by kernel_rfl
theorem kindD38 : kindD Try.prog 38 = some true := by kernel_rfl
theorem sizeD38 : sizeD Try.prog 38 = 2 := by kernel_rfl
theorem zeroV38 : zeroVs Try.prog 38 = some [V.d (D.int .i64 0), V.d (D.int .i64 0)] := by kernel_rfl
theorem zc38 : zeroCs Try.prog 38 = some [D.int .i64 0, D.int .i64 0] := by kernel_rfl
theorem zl38 : ((Try.prog.info? 38).bind (·.zero)).elim 0 (fun x => x.cells.size) = (zeroCs Try.prog 38).elim 0 List.length := by kernel_rfl
theorem place38 : placesD Try.prog 38 = some [(0, 1), (1, 1)] := by kernel_rfl
theorem zvo38 : zeroV Try.prog 38 = some (V.d (D.agg [D.int .i64 0, D.int .i64 0])) := by kernel_rfl
theorem leaf38 : leafOffs Try.prog 8 38 = some [(0, 0), (1, 0)] := by kernel_rfl
theorem eqg38 : Try.prog.eqGuardType Try.prog.depth 38 = false := by kernel_rfl
theorem fo38_0 : fieldOff Try.prog 38 0 = some (0, 3) := by kernel_rfl
theorem fo38_1 : fieldOff Try.prog 38 1 = some (1, 3) := by kernel_rfl
theorem kindD39 : kindD Try.prog 39 = some true := by kernel_rfl
theorem sizeD39 : sizeD Try.prog 39 = 2 := by kernel_rfl
theorem zeroV39 : zeroVs Try.prog 39 = some [V.d (D.int .i64 0), V.d (D.int .i64 0)] := by kernel_rfl
theorem zc39 : zeroCs Try.prog 39 = some [D.int .i64 0, D.int .i64 0] := by kernel_rfl
theorem zl39 : ((Try.prog.info? 39).bind (·.zero)).elim 0 (fun x => x.cells.size) = (zeroCs Try.prog 39).elim 0 List.length := by kernel_rfl
theorem place39 : placesD Try.prog 39 = some [(0, 1), (1, 1)] := by kernel_rfl
theorem zvo39 : zeroV Try.prog 39 = some (V.d (D.agg [D.int .i64 0, D.int .i64 0])) := by kernel_rfl
theorem leaf39 : leafOffs Try.prog 8 39 = some [(0, 0), (1, 0)] := by kernel_rfl
theorem eqg39 : Try.prog.eqGuardType Try.prog.depth 39 = false := by kernel_rfl
theorem fo39_0 : fieldOff Try.prog 39 0 = some (0, 3) := by kernel_rfl
theorem fo39_1 : fieldOff Try.prog 39 1 = some (1, 3) := by kernel_rfl
theorem kindD40 : kindD Try.prog 40 = some true := by kernel_rfl
theorem sizeD40 : sizeD Try.prog 40 = 2 := by kernel_rfl
theorem zeroV40 : zeroVs Try.prog 40 = some [V.d (D.int .i64 0), V.d (D.int .i64 0)] := by kernel_rfl
theorem zc40 : zeroCs Try.prog 40 = some [D.int .i64 0, D.int .i64 0] := by kernel_rfl
theorem zl40 : ((Try.prog.info? 40).bind (·.zero)).elim 0 (fun x => x.cells.size) = (zeroCs Try.prog 40).elim 0 List.length := by kernel_rfl
theorem place40 : placesD Try.prog 40 = some [(0, 1), (1, 1)] := by kernel_rfl
theorem zvo40 : zeroV Try.prog 40 = some (V.d (D.agg [D.int .i64 0, D.int .i64 0])) := by kernel_rfl
theorem leaf40 : leafOffs Try.prog 8 40 = some [(0, 0), (1, 0)] := by kernel_rfl
theorem eqg40 : Try.prog.eqGuardType Try.prog.depth 40 = false := by kernel_rfl
theorem fo40_0 : fieldOff Try.prog 40 0 = some (0, 2) := by kernel_rfl
theorem fo40_1 : fieldOff Try.prog 40 1 = some (1, 2) := by kernel_rfl
theorem kindD41 : kindD Try.prog 41 = some true := by kernel_rfl
theorem sizeD41 : sizeD Try.prog 41 = 2 := by kernel_rfl
theorem zeroV41 : zeroVs Try.prog 41 = some [V.d (D.int .i64 0), V.d (D.int .i64 0)] := by kernel_rfl
theorem zc41 : zeroCs Try.prog 41 = some [D.int .i64 0, D.int .i64 0] := by kernel_rfl
theorem zl41 : ((Try.prog.info? 41).bind (·.zero)).elim 0 (fun x => x.cells.size) = (zeroCs Try.prog 41).elim 0 List.length := by kernel_rfl
theorem place41 : placesD Try.prog 41 = some [(0, 1), (1, 1)] := by kernel_rfl
theorem zvo41 : zeroV Try.prog 41 = some (V.d (D.agg [D.int .i64 0, D.int .i64 0])) := by kernel_rfl
theorem leaf41 : leafOffs Try.prog 8 41 = some [(0, 0), (1, 0)] := by kernel_rfl
theorem eqg41 : Try.prog.eqGuardType Try.prog.depth 41 = false := by kernel_rfl
theorem fo41_0 : fieldOff Try.prog 41 0 = some (0, 2) := by kernel_rfl
theorem fo41_1 : fieldOff Try.prog 41 1 = some (1, 2) := by kernel_rfl
theorem kindD42 : kindD Try.prog 42 = some true := by kernel_rfl
theorem sizeD42 : sizeD Try.prog 42 = 7 := by kernel_rfl
theorem zeroV42 : zeroVs Try.prog 42 = some [V.d (D.int .i64 0), V.d (D.int .i64 0), V.d (D.int .i64 0), V.d (D.int .i64 0), V.d (D.int .i64 0), V.d (D.int .i64 0), V.d (D.int .i64 0)] := by kernel_rfl
theorem zc42 : zeroCs Try.prog 42 = some [D.int .i64 0, D.int .i64 0, D.int .i64 0, D.int .i64 0, D.int .i64 0, D.int .i64 0, D.int .i64 0] := by kernel_rfl
theorem zl42 : ((Try.prog.info? 42).bind (·.zero)).elim 0 (fun x => x.cells.size) = (zeroCs Try.prog 42).elim 0 List.length := by kernel_rfl
theorem place42 : placesD Try.prog 42 = some [(0, 1), (1, 1), (2, 1), (3, 2), (5, 2)] := by kernel_rfl
theorem zvo42 : zeroV Try.prog 42 = some (V.d (D.agg [D.int .i64 0, D.int .i64 0, D.int .i64 0, D.int .i64 0, D.int .i64 0, D.int .i64 0, D.int .i64 0])) := by kernel_rfl
theorem leaf42 : leafOffs Try.prog 8 42 = some [(0, 0), (1, 0), (2, 0), (3, 0), (4, 0), (5, 0), (6, 0)] := by kernel_rfl
theorem eqg42 : Try.prog.eqGuardType Try.prog.depth 42 = false := by kernel_rfl
theorem fo42_0 : fieldOff Try.prog 42 0 = some (0, 3) := by kernel_rfl
theorem fo42_1 : fieldOff Try.prog 42 1 = some (1, 3) := by kernel_rfl
theorem fo42_2 : fieldOff Try.prog 42 2 = some (2, 2) := by kernel_rfl
theorem fo42_3 : fieldOff Try.prog 42 3 = some (3, 41) := by kernel_rfl
theorem fo42_4 : fieldOff Try.prog 42 4 = some (5, 41) := by kernel_rfl
theorem kindD43 : kindD Try.prog 43 = some true := by kernel_rfl
theorem sizeD43 : sizeD Try.prog 43 = 7 := by kernel_rfl
theorem zeroV43 : zeroVs Try.prog 43 = some [V.d (D.int .i64 0), V.d (D.int .i64 0), V.d (D.int .i64 0), V.d (D.int .i64 0), V.d (D.int .i64 0), V.d (D.int .i64 0), V.d (D.int .i64 0)] := by kernel_rfl
theorem zc43 : zeroCs Try.prog 43 = some [D.int .i64 0, D.int .i64 0, D.int .i64 0, D.int .i64 0, D.int .i64 0, D.int .i64 0, D.int .i64 0] := by kernel_rfl
theorem zl43 : ((Try.prog.info? 43).bind (·.zero)).elim 0 (fun x => x.cells.size) = (zeroCs Try.prog 43).elim 0 List.length := by kernel_rfl
theorem place43 : placesD Try.prog 43 = some [(0, 1), (1, 1), (2, 1), (3, 2), (5, 2)] := by kernel_rfl
theorem zvo43 : zeroV Try.prog 43 = some (V.d (D.agg [D.int .i64 0, D.int .i64 0, D.int .i64 0, D.int .i64 0, D.int .i64 0, D.int .i64 0, D.int .i64 0])) := by kernel_rfl
theorem leaf43 : leafOffs Try.prog 8 43 = some [(0, 0), (1, 0), (2, 0), (3, 0), (4, 0), (5, 0), (6, 0)] := by kernel_rfl
theorem eqg43 : Try.prog.eqGuardType Try.prog.depth 43 = false := by kernel_rfl
theorem fo43_0 : fieldOff Try.prog 43 0 = some (0, 3) := by kernel_rfl
theorem fo43_1 : fieldOff Try.prog 43 1 = some (1, 3) := by kernel_rfl
theorem fo43_2 : fieldOff Try.prog 43 2 = some (2, 2) := by kernel_rfl
theorem fo43_3 : fieldOff Try.prog 43 3 = some (3, 41) := by kernel_rfl
theorem fo43_4 : fieldOff Try.prog 43 4 = some (5, 41) := by kernel_rfl
theorem kindD44 : kindD Try.prog 44 = some false := by kernel_rfl
theorem sizeD44 : sizeD Try.prog 44 = 1 := by kernel_rfl
theorem zeroV44 : zeroVs Try.prog 44 = some [V.d (D.con Value.nilFunc)] := by kernel_rfl
theorem zc44 : zeroCs Try.prog 44 = some [D.con Value.nilFunc] := by kernel_rfl
theorem zl44 : ((Try.prog.info? 44).bind (·.zero)).elim 0 (fun x => x.cells.size) = (zeroCs Try.prog 44).elim 0 List.length := by kernel_rfl
theorem zvo44 : zeroV Try.prog 44 = some (V.d (D.con Value.nilFunc)) := by kernel_rfl
theorem u45 : Try.prog.underlying 45 = some (.int .i64) := by kernel_rfl
theorem kindD45 : kindD Try.prog 45 = some false := by kernel_rfl
theorem sizeD45 : sizeD Try.prog 45 = 1 := by kernel_rfl
theorem zeroV45 : zeroVs Try.prog 45 = some [V.d (D.int .i64 0)] := by kernel_rfl
theorem zc45 : zeroCs Try.prog 45 = some [D.int .i64 0] := by kernel_rfl
theorem zl45 : ((Try.prog.info? 45).bind (·.zero)).elim 0 (fun x => x.cells.size) = (zeroCs Try.prog 45).elim 0 List.length := by kernel_rfl
theorem zvo45 : zeroV Try.prog 45 = some (V.d (D.int .i64 0)) := by kernel_rfl
theorem kindD46 : kindD Try.prog 46 = some false := by kernel_rfl
theorem sizeD46 : sizeD Try.prog 46 = 1 := by kernel_rfl
theorem zeroV46 : zeroVs Try.prog 46 = some [V.un] := by kernel_rfl
theorem zvo46 : zeroV Try.prog 46 = some V.un := by kernel_rfl
theorem kindD47 : kindD Try.prog 47 = some false := by kernel_rfl
theorem sizeD47 : sizeD Try.prog 47 = 1 := by kernel_rfl
theorem zeroV47 : zeroVs Try.prog 47 = some [V.d (D.con Value.nilFunc)] := by kernel_rfl
theorem zc47 : zeroCs Try.prog 47 = some [D.con Value.nilFunc] := by kernel_rfl
theorem zl47 : ((Try.prog.info? 47).bind (·.zero)).elim 0 (fun x => x.cells.size) = (zeroCs Try.prog 47).elim 0 List.length := by kernel_rfl
theorem zvo47 : zeroV Try.prog 47 = some (V.d (D.con Value.nilFunc)) := by kernel_rfl
theorem u48 : Try.prog.underlying 48 = some (.slice 3) := by kernel_rfl
theorem kindD48 : kindD Try.prog 48 = some false := by kernel_rfl
theorem sizeD48 : sizeD Try.prog 48 = 1 := by kernel_rfl
theorem elI48 : elI Try.prog 48 = some (1, 8) := by kernel_rfl
theorem elemT48 : elemTy Try.prog 48 = some 3 := by kernel_rfl
theorem esz48 : elemSz Try.prog 48 = 1 := by kernel_rfl
theorem zeroV48 : zeroVs Try.prog 48 = some [V.nil 1] := by kernel_rfl
theorem zc48 : zeroCs Try.prog 48 = some [D.sl false 1 []] := by kernel_rfl
theorem zl48 : ((Try.prog.info? 48).bind (·.zero)).elim 0 (fun x => x.cells.size) = (zeroCs Try.prog 48).elim 0 List.length := by kernel_rfl
theorem zvo48 : zeroV Try.prog 48 = some (V.nil 1) := by kernel_rfl
theorem kindD49 : kindD Try.prog 49 = some false := by kernel_rfl
theorem sizeD49 : sizeD Try.prog 49 = 1 := by kernel_rfl
theorem zeroV49 : zeroVs Try.prog 49 = some [V.un] := by kernel_rfl
theorem zvo49 : zeroV Try.prog 49 = some V.un := by kernel_rfl
theorem kindD50 : kindD Try.prog 50 = some false := by kernel_rfl
theorem sizeD50 : sizeD Try.prog 50 = 1 := by kernel_rfl
theorem zeroV50 : zeroVs Try.prog 50 = some [V.d (D.con Value.nilFunc)] := by kernel_rfl
theorem zc50 : zeroCs Try.prog 50 = some [D.con Value.nilFunc] := by kernel_rfl
theorem zl50 : ((Try.prog.info? 50).bind (·.zero)).elim 0 (fun x => x.cells.size) = (zeroCs Try.prog 50).elim 0 List.length := by kernel_rfl
theorem zvo50 : zeroV Try.prog 50 = some (V.d (D.con Value.nilFunc)) := by kernel_rfl
theorem kindD51 : kindD Try.prog 51 = some false := by kernel_rfl
theorem sizeD51 : sizeD Try.prog 51 = 1 := by kernel_rfl
theorem zeroV51 : zeroVs Try.prog 51 = some [V.d (D.con Value.nilFunc)] := by kernel_rfl
theorem zc51 : zeroCs Try.prog 51 = some [D.con Value.nilFunc] := by kernel_rfl
theorem zl51 : ((Try.prog.info? 51).bind (·.zero)).elim 0 (fun x => x.cells.size) = (zeroCs Try.prog 51).elim 0 List.length := by kernel_rfl
theorem zvo51 : zeroV Try.prog 51 = some (V.d (D.con Value.nilFunc)) := by kernel_rfl
theorem kindD52 : kindD Try.prog 52 = some false := by kernel_rfl
theorem sizeD52 : sizeD Try.prog 52 = 1 := by kernel_rfl
theorem zeroV52 : zeroVs Try.prog 52 = some [V.d (D.con Value.nilFunc)] := by kernel_rfl
theorem zc52 : zeroCs Try.prog 52 = some [D.con Value.nilFunc] := by kernel_rfl
theorem zl52 : ((Try.prog.info? 52).bind (·.zero)).elim 0 (fun x => x.cells.size) = (zeroCs Try.prog 52).elim 0 List.length := by kernel_rfl
theorem zvo52 : zeroV Try.prog 52 = some (V.d (D.con Value.nilFunc)) := by kernel_rfl
theorem kindD53 : kindD Try.prog 53 = some false := by kernel_rfl
theorem sizeD53 : sizeD Try.prog 53 = 1 := by kernel_rfl
theorem zeroV53 : zeroVs Try.prog 53 = some [V.d (D.con Value.nilFunc)] := by kernel_rfl
theorem zc53 : zeroCs Try.prog 53 = some [D.con Value.nilFunc] := by kernel_rfl
theorem zl53 : ((Try.prog.info? 53).bind (·.zero)).elim 0 (fun x => x.cells.size) = (zeroCs Try.prog 53).elim 0 List.length := by kernel_rfl
theorem zvo53 : zeroV Try.prog 53 = some (V.d (D.con Value.nilFunc)) := by kernel_rfl
theorem kindD54 : kindD Try.prog 54 = some false := by kernel_rfl
theorem sizeD54 : sizeD Try.prog 54 = 1 := by kernel_rfl
theorem zeroV54 : zeroVs Try.prog 54 = some [V.d (D.con Value.nilFunc)] := by kernel_rfl
theorem zc54 : zeroCs Try.prog 54 = some [D.con Value.nilFunc] := by kernel_rfl
theorem zl54 : ((Try.prog.info? 54).bind (·.zero)).elim 0 (fun x => x.cells.size) = (zeroCs Try.prog 54).elim 0 List.length := by kernel_rfl
theorem zvo54 : zeroV Try.prog 54 = some (V.d (D.con Value.nilFunc)) := by kernel_rfl
theorem kindD56 : kindD Try.prog 56 = some false := by kernel_rfl
theorem sizeD56 : sizeD Try.prog 56 = 1 := by kernel_rfl
theorem zeroV56 : zeroVs Try.prog 56 = some [V.d (D.con Value.nilFunc)] := by kernel_rfl
theorem zc56 : zeroCs Try.prog 56 = some [D.con Value.nilFunc] := by kernel_rfl
theorem zl56 : ((Try.prog.info? 56).bind (·.zero)).elim 0 (fun x => x.cells.size) = (zeroCs Try.prog 56).elim 0 List.length := by kernel_rfl
theorem zvo56 : zeroV Try.prog 56 = some (V.d (D.con Value.nilFunc)) := by kernel_rfl
theorem kindD57 : kindD Try.prog 57 = some false := by kernel_rfl
theorem sizeD57 : sizeD Try.prog 57 = 1 := by kernel_rfl
theorem zeroV57 : zeroVs Try.prog 57 = some [V.d (D.con Value.nilFunc)] := by kernel_rfl
theorem zc57 : zeroCs Try.prog 57 = some [D.con Value.nilFunc] := by kernel_rfl
theorem zl57 : ((Try.prog.info? 57).bind (·.zero)).elim 0 (fun x => x.cells.size) = (zeroCs Try.prog 57).elim 0 List.length := by kernel_rfl
theorem zvo57 : zeroV Try.prog 57 = some (V.d (D.con Value.nilFunc)) := by kernel_rfl
theorem kindD58 : kindD Try.prog 58 = some false := by kernel_rfl
theorem sizeD58 : sizeD Try.prog 58 = 1 := by kernel_rfl
theorem zeroV58 : zeroVs Try.prog 58 = some [V.d (D.con Value.nilFunc)] := by kernel_rfl
theorem zc58 : zeroCs Try.prog 58 = some [D.con Value.nilFunc] := by kernel_rfl
theorem zl58 : ((Try.prog.info? 58).bind (·.zero)).elim 0 (fun x => x.cells.size) = (zeroCs Try.prog 58).elim 0 List.length := by kernel_rfl
theorem zvo58 : zeroV Try.prog 58 = some (V.d (D.con Value.nilFunc)) := by kernel_rfl
theorem kindD59 : kindD Try.prog 59 = some false := by kernel_rfl
theorem sizeD59 : sizeD Try.prog 59 = 1 := by kernel_rfl
theorem zeroV59 : zeroVs Try.prog 59 = some [V.d (D.con Value.nilFunc)] := by kernel_rfl
theorem zc59 : zeroCs Try.prog 59 = some [D.con Value.nilFunc] := by kernel_rfl
theorem zl59 : ((Try.prog.info? 59).bind (·.zero)).elim 0 (fun x => x.cells.size) = (zeroCs Try.prog 59).elim 0 List.length := by kernel_rfl
theorem zvo59 : zeroV Try.prog 59 = some (V.d (D.con Value.nilFunc)) := by kernel_rfl
theorem u60 : Try.prog.underlying 60 = some (.slice 69) := by kernel_rfl
theorem kindD60 : kindD Try.prog 60 = some false := by kernel_rfl
theorem sizeD60 : sizeD Try.prog 60 = 1 := by kernel_rfl
theorem elI60 : elI Try.prog 60 = some (3, 24) := by kernel_rfl
theorem elemT60 : elemTy Try.prog 60 = some 69 := by kernel_rfl
theorem esz60 : elemSz Try.prog 60 = 3 := by kernel_rfl
theorem zeroV60 : zeroVs Try.prog 60 = some [V.nil 3] := by kernel_rfl
theorem zc60 : zeroCs Try.prog 60 = some [D.sl false 3 []] := by kernel_rfl
theorem zl60 : ((Try.prog.info? 60).bind (·.zero)).elim 0 (fun x => x.cells.size) = (zeroCs Try.prog 60).elim 0 List.length := by kernel_rfl
theorem zvo60 : zeroV Try.prog 60 = some (V.nil 3) := by kernel_rfl
theorem kindD61 : kindD Try.prog 61 = some false := by kernel_rfl
theorem sizeD61 : sizeD Try.prog 61 = 1 := by kernel_rfl
theorem zeroV61 : zeroVs Try.prog 61 = some [V.un] := by kernel_rfl
theorem zvo61 : zeroV Try.prog 61 = some V.un := by kernel_rfl
theorem u65 : Try.prog.underlying 65 = some (.slice 41) := by kernel_rfl
theorem kindD65 : kindD Try.prog 65 = some false := by kernel_rfl
theorem sizeD65 : sizeD Try.prog 65 = 1 := by kernel_rfl
theorem elI65 : elI Try.prog 65 = some (2, 16) := by kernel_rfl
theorem elemT65 : elemTy Try.prog 65 = some 41 := by kernel_rfl
theorem esz65 : elemSz Try.prog 65 = 2 := by kernel_rfl
theorem zeroV65 : zeroVs Try.prog 65 = some [V.nil 2] := by kernel_rfl
theorem zc65 : zeroCs Try.prog 65 = some [D.sl false 2 []] := by kernel_rfl
theorem zl65 : ((Try.prog.info? 65).bind (·.zero)).elim 0 (fun x => x.cells.size) = (zeroCs Try.prog 65).elim 0 List.length := by kernel_rfl
theorem zvo65 : zeroV Try.prog 65 = some (V.nil 2) := by kernel_rfl
theorem kindD66 : kindD Try.prog 66 = some false := by kernel_rfl
theorem sizeD66 : sizeD Try.prog 66 = 1 := by kernel_rfl
theorem zeroV66 : zeroVs Try.prog 66 = some [V.un] := by kernel_rfl
theorem zvo66 : zeroV Try.prog 66 = some V.un := by kernel_rfl
theorem kindD68 : kindD Try.prog 68 = some true := by kernel_rfl
theorem sizeD68 : sizeD Try.prog 68 = 3 := by kernel_rfl
theorem zeroV68 : zeroVs Try.prog 68 = some [V.d (D.int .i64 0), V.d (D.int .i64 0), V.d (D.int .i64 0)] := by kernel_rfl
theorem zc68 : zeroCs Try.prog 68 = some [D.int .i64 0, D.int .i64 0, D.int .i64 0] := by kernel_rfl
theorem zl68 : ((Try.prog.info? 68).bind (·.zero)).elim 0 (fun x => x.cells.size) = (zeroCs Try.prog 68).elim 0 List.length := by kernel_rfl
theorem place68 : placesD Try.prog 68 = some [(0, 1), (1, 2)] := by kernel_rfl
theorem zvo68 : zeroV Try.prog 68 = some (V.d (D.agg [D.int .i64 0, D.int .i64 0, D.int .i64 0])) := by kernel_rfl
theorem leaf68 : leafOffs Try.prog 8 68 = some [(0, 0), (1, 0), (2, 0)] := by kernel_rfl
theorem eqg68 : Try.prog.eqGuardType Try.prog.depth 68 = false := by kernel_rfl
theorem fo68_0 : fieldOff Try.prog 68 0 = some (0, 3) := by kernel_rfl
theorem fo68_1 : fieldOff Try.prog 68 1 = some (1, 41) := by kernel_rfl
theorem kindD69 : kindD Try.prog 69 = some true := by kernel_rfl
theorem sizeD69 : sizeD Try.prog 69 = 3 := by kernel_rfl
theorem zeroV69 : zeroVs Try.prog 69 = some [V.d (D.int .i64 0), V.d (D.int .i64 0), V.d (D.int .i64 0)] := by kernel_rfl
theorem zc69 : zeroCs Try.prog 69 = some [D.int .i64 0, D.int .i64 0, D.int .i64 0] := by kernel_rfl
theorem zl69 : ((Try.prog.info? 69).bind (·.zero)).elim 0 (fun x => x.cells.size) = (zeroCs Try.prog 69).elim 0 List.length := by kernel_rfl
theorem place69 : placesD Try.prog 69 = some [(0, 1), (1, 2)] := by kernel_rfl
theorem zvo69 : zeroV Try.prog 69 = some (V.d (D.agg [D.int .i64 0, D.int .i64 0, D.int .i64 0])) := by kernel_rfl
theorem leaf69 : leafOffs Try.prog 8 69 = some [(0, 0), (1, 0), (2, 0)] := by kernel_rfl
theorem eqg69 : Try.prog.eqGuardType Try.prog.depth 69 = false := by kernel_rfl
theorem fo69_0 : fieldOff Try.prog 69 0 = some (0, 3) := by kernel_rfl
theorem fo69_1 : fieldOff Try.prog 69 1 = some (1, 41) := by kernel_rfl
theorem kindD74 : kindD Try.prog 74 = some false := by kernel_rfl
theorem sizeD74 : sizeD Try.prog 74 = 1 := by kernel_rfl
theorem zeroV74 : zeroVs Try.prog 74 = some [V.d (D.con Value.nilFunc)] := by kernel_rfl
theorem zc74 : zeroCs Try.prog 74 = some [D.con Value.nilFunc] := by kernel_rfl
theorem zl74 : ((Try.prog.info? 74).bind (·.zero)).elim 0 (fun x => x.cells.size) = (zeroCs Try.prog 74).elim 0 List.length := by kernel_rfl
theorem zvo74 : zeroV Try.prog 74 = some (V.d (D.con Value.nilFunc)) := by kernel_rfl
theorem kindD76 : kindD Try.prog 76 = some false := by kernel_rfl
theorem sizeD76 : sizeD Try.prog 76 = 1 := by kernel_rfl
theorem zeroV76 : zeroVs Try.prog 76 = some [V.d (D.con Value.nilFunc)] := by kernel_rfl
theorem zc76 : zeroCs Try.prog 76 = some [D.con Value.nilFunc] := by kernel_rfl
theorem zl76 : ((Try.prog.info? 76).bind (·.zero)).elim 0 (fun x => x.cells.size) = (zeroCs Try.prog 76).elim 0 List.length := by kernel_rfl
theorem zvo76 : zeroV Try.prog 76 = some (V.d (D.con Value.nilFunc)) := by kernel_rfl
theorem kindD78 : kindD Try.prog 78 = some false := by kernel_rfl
theorem sizeD78 : sizeD Try.prog 78 = 1 := by kernel_rfl
theorem zeroV78 : zeroVs Try.prog 78 = some [V.un] := by kernel_rfl
theorem zvo78 : zeroV Try.prog 78 = some V.un := by kernel_rfl
theorem kindD84 : kindD Try.prog 84 = some false := by kernel_rfl
theorem sizeD84 : sizeD Try.prog 84 = 1 := by kernel_rfl
theorem zeroV84 : zeroVs Try.prog 84 = some [V.d (D.con Value.nilFunc)] := by kernel_rfl
theorem zc84 : zeroCs Try.prog 84 = some [D.con Value.nilFunc] := by kernel_rfl
theorem zl84 : ((Try.prog.info? 84).bind (·.zero)).elim 0 (fun x => x.cells.size) = (zeroCs Try.prog 84).elim 0 List.length := by kernel_rfl
theorem zvo84 : zeroV Try.prog 84 = some (V.d (D.con Value.nilFunc)) := by kernel_rfl
theorem kindD86 : kindD Try.prog 86 = some true := by kernel_rfl
theorem sizeD86 : sizeD Try.prog 86 = 8 := by kernel_rfl
theorem zeroV86 : zeroVs Try.prog 86 = some [V.d (D.int .i64 0), V.d (D.int .i64 0), V.d (D.int .i64 0), V.nil 1, V.d (D.int .i64 0), V.d (D.int .i64 0), V.d (D.int .i64 0), V.d (D.bool false)] := by kernel_rfl
theorem zc86 : zeroCs Try.prog 86 = some [D.int .i64 0, D.int .i64 0, D.int .i64 0, D.sl false 1 [], D.int .i64 0, D.int .i64 0, D.int .i64 0, D.bool false] := by kernel_rfl
theorem zl86 : ((Try.prog.info? 86).bind (·.zero)).elim 0 (fun x => x.cells.size) = (zeroCs Try.prog 86).elim 0 List.length := by kernel_rfl
theorem place86 : placesD Try.prog 86 = some [(0, 1), (1, 1), (2, 1), (3, 1), (4, 1), (5, 1), (6, 1), (7, 1)] := by kernel_rfl
theorem zvo86 : zeroV Try.prog 86 = some (V.d (D.agg [D.int .i64 0, D.int .i64 0, D.int .i64 0, D.sl false 1 [], D.int .i64 0, D.int .i64 0, D.int .i64 0, D.bool false])) := by kernel_rfl
theorem eqg86 : Try.prog.eqGuardType Try.prog.depth 86 = false := by kernel_rfl
theorem fo86_0 : fieldOff Try.prog 86 0 = some (0, 3) := by kernel_rfl
theorem fo86_1 : fieldOff Try.prog 86 1 = some (1, 3) := by kernel_rfl
theorem fo86_2 : fieldOff Try.prog 86 2 = some (2, 3) := by kernel_rfl
theorem fo86_3 : fieldOff Try.prog 86 3 = some (3, 48) := by kernel_rfl
theorem fo86_4 : fieldOff Try.prog 86 4 = some (4, 2) := by kernel_rfl
theorem fo86_5 : fieldOff Try.prog 86 5 = some (5, 2) := by kernel_rfl
theorem fo86_6 : fieldOff Try.prog 86 6 = some (6, 2) := by kernel_rfl
theorem fo86_7 : fieldOff Try.prog 86 7 = some (7, 4) := by kernel_rfl
theorem kindD89 : kindD Try.prog 89 = some false := by kernel_rfl
theorem sizeD89 : sizeD Try.prog 89 = 1 := by kernel_rfl
theorem zeroV89 : zeroVs Try.prog 89 = some [V.d (D.con Value.nilFunc)] := by kernel_rfl
theorem zc89 : zeroCs Try.prog 89 = some [D.con Value.nilFunc] := by kernel_rfl
theorem zl89 : ((Try.prog.info? 89).bind (·.zero)).elim 0 (fun x => x.cells.size) = (zeroCs Try.prog 89).elim 0 List.length := by kernel_rfl
theorem zvo89 : zeroV Try.prog 89 = some (V.d (D.con Value.nilFunc)) := by kernel_rfl
theorem kindD91 : kindD Try.prog 91 = some false := by kernel_rfl
theorem sizeD91 : sizeD Try.prog 91 = 1 := by kernel_rfl
theorem zeroV91 : zeroVs Try.prog 91 = some [V.d (D.con Value.nilFunc)] := by kernel_rfl
theorem zc91 : zeroCs Try.prog 91 = some [D.con Value.nilFunc] := by kernel_rfl
theorem zl91 : ((Try.prog.info? 91).bind (·.zero)).elim 0 (fun x => x.cells.size) = (zeroCs Try.prog 91).elim 0 List.length := by kernel_rfl
theorem zvo91 : zeroV Try.prog 91 = some (V.d (D.con Value.nilFunc)) := by kernel_rfl
theorem kindD93 : kindD Try.prog 93 = some true := by kernel_rfl
theorem sizeD93 : sizeD Try.prog 93 = 5 := by kernel_rfl
theorem zeroV93 : zeroVs Try.prog 93 = some [V.d (D.int .i64 0), V.d (D.int .i64 0), V.d (D.int .i64 0), V.d (D.int .i64 0), V.d (D.int .i64 0)] := by kernel_rfl
theorem zc93 : zeroCs Try.prog 93 = some [D.int .i64 0, D.int .i64 0, D.int .i64 0, D.int .i64 0, D.int .i64 0] := by kernel_rfl
theorem zl93 : ((Try.prog.info? 93).bind (·.zero)).elim 0 (fun x => x.cells.size) = (zeroCs Try.prog 93).elim 0 List.length := by kernel_rfl
theorem place93 : placesD Try.prog 93 = some [(0, 1), (1, 1), (2, 1), (3, 1), (4, 1)] := by kernel_rfl
theorem zvo93 : zeroV Try.prog 93 = some (V.d (D.agg [D.int .i64 0, D.int .i64 0, D.int .i64 0, D.int .i64 0, D.int .i64 0])) := by kernel_rfl
theorem leaf93 : leafOffs Try.prog 8 93 = some [(0, 0), (1, 0), (2, 0), (3, 0), (4, 0)] := by kernel_rfl
theorem eqg93 : Try.prog.eqGuardType Try.prog.depth 93 = false := by kernel_rfl
theorem fo93_0 : fieldOff Try.prog 93 0 = some (0, 3) := by kernel_rfl
theorem fo93_1 : fieldOff Try.prog 93 1 = some (1, 3) := by kernel_rfl
theorem fo93_2 : fieldOff Try.prog 93 2 = some (2, 2) := by kernel_rfl
theorem fo93_3 : fieldOff Try.prog 93 3 = some (3, 3) := by kernel_rfl
theorem fo93_4 : fieldOff Try.prog 93 4 = some (4, 3) := by kernel_rfl
theorem kindD95 : kindD Try.prog 95 = some true := by kernel_rfl
theorem sizeD95 : sizeD Try.prog 95 = 7 := by kernel_rfl
theorem zeroV95 : zeroVs Try.prog 95 = some [V.d (D.int .i64 0), V.d (D.int .i64 0), V.d (D.int .i64 0), V.d (D.int .i64 0), V.d (D.int .i64 0), V.nil 1, V.d (D.int .i64 0)] := by kernel_rfl
theorem zc95 : zeroCs Try.prog 95 = some [D.int .i64 0, D.int .i64 0, D.int .i64 0, D.int .i64 0, D.int .i64 0, D.sl false 1 [], D.int .i64 0] := by kernel_rfl
theorem zl95 : ((Try.prog.info? 95).bind (·.zero)).elim 0 (fun x => x.cells.size) = (zeroCs Try.prog 95).elim 0 List.length := by kernel_rfl
theorem place95 : placesD Try.prog 95 = some [(0, 1), (1, 1), (2, 2), (4, 1), (5, 1), (6, 1)] := by kernel_rfl
theorem zvo95 : zeroV Try.prog 95 = some (V.d (D.agg [D.int .i64 0, D.int .i64 0, D.int .i64 0, D.int .i64 0, D.int .i64 0, D.sl false 1 [], D.int .i64 0])) := by kernel_rfl
theorem eqg95 : Try.prog.eqGuardType Try.prog.depth 95 = false := by kernel_rfl
theorem fo95_0 : fieldOff Try.prog 95 0 = some (0, 3) := by kernel_rfl
theorem fo95_1 : fieldOff Try.prog 95 1 = some (1, 3) := by kernel_rfl
theorem fo95_2 : fieldOff Try.prog 95 2 = some (2, 41) := by kernel_rfl
theorem fo95_3 : fieldOff Try.prog 95 3 = some (4, 3) := by kernel_rfl
theorem fo95_4 : fieldOff Try.prog 95 4 = some (5, 48) := by kernel_rfl
theorem fo95_5 : fieldOff Try.prog 95 5 = some (6, 3) := by kernel_rfl
theorem kindD98 : kindD Try.prog 98 = some false := by kernel_rfl
theorem sizeD98 : sizeD Try.prog 98 = 1 := by kernel_rfl
theorem zeroV98 : zeroVs Try.prog 98 = some [V.d (D.con Value.nilFunc)] := by kernel_rfl
theorem zc98 : zeroCs Try.prog 98 = some [D.con Value.nilFunc] := by kernel_rfl
theorem zl98 : ((Try.prog.info? 98).bind (·.zero)).elim 0 (fun x => x.cells.size) = (zeroCs Try.prog 98).elim 0 List.length := by kernel_rfl
theorem zvo98 : zeroV Try.prog 98 = some (V.d (D.con Value.nilFunc)) := by kernel_rfl
theorem kindD107 : kindD Try.prog 107 = some true := by kernel_rfl
theorem sizeD107 : sizeD Try.prog 107 = 2 := by kernel_rfl
theorem zeroV107 : zeroVs Try.prog 107 = some [V.d (D.int .i64 0), V.d (D.int .i64 0)] := by kernel_rfl
theorem zc107 : zeroCs Try.prog 107 = some [D.int .i64 0, D.int .i64 0] := by kernel_rfl
theorem zl107 : ((Try.prog.info? 107).bind (·.zero)).elim 0 (fun x => x.cells.size) = (zeroCs Try.prog 107).elim 0 List.length := by kernel_rfl
theorem place107 : placesD Try.prog 107 = some [(0, 1), (1, 1)] := by kernel_rfl
theorem zvo107 : zeroV Try.prog 107 = some (V.d (D.agg [D.int .i64 0, D.int .i64 0])) := by kernel_rfl
theorem leaf107 : leafOffs Try.prog 8 107 = some [(0, 0), (1, 0)] := by kernel_rfl
theorem eqg107 : Try.prog.eqGuardType Try.prog.depth 107 = false := by kernel_rfl
theorem fo107_0 : fieldOff Try.prog 107 0 = some (0, 3) := by kernel_rfl
theorem fo107_1 : fieldOff Try.prog 107 1 = some (1, 3) := by kernel_rfl
theorem kindD112 : kindD Try.prog 112 = some true := by kernel_rfl
theorem sizeD112 : sizeD Try.prog 112 = 2 := by kernel_rfl
theorem zeroV112 : zeroVs Try.prog 112 = some [V.d (D.int .i64 0), V.d (D.int .i64 0)] := by kernel_rfl
theorem zc112 : zeroCs Try.prog 112 = some [D.int .i64 0, D.int .i64 0] := by kernel_rfl
theorem zl112 : ((Try.prog.info? 112).bind (·.zero)).elim 0 (fun x => x.cells.size) = (zeroCs Try.prog 112).elim 0 List.length := by kernel_rfl
theorem place112 : placesD Try.prog 112 = some [(0, 1), (1, 1)] := by kernel_rfl
theorem zvo112 : zeroV Try.prog 112 = some (V.d (D.agg [D.int .i64 0, D.int .i64 0])) := by kernel_rfl
theorem leaf112 : leafOffs Try.prog 8 112 = some [(0, 0), (1, 0)] := by kernel_rfl
theorem eqg112 : Try.prog.eqGuardType Try.prog.depth 112 = false := by kernel_rfl
theorem fo112_0 : fieldOff Try.prog 112 0 = some (0, 3) := by kernel_rfl
theorem fo112_1 : fieldOff Try.prog 112 1 = some (1, 2) := by kernel_rfl
theorem kindD115 : kindD Try.prog 115 = some false := by kernel_rfl
theorem sizeD115 : sizeD Try.prog 115 = 1 := by kernel_rfl
theorem zeroV115 : zeroVs Try.prog 115 = some [V.un] := by kernel_rfl
theorem zvo115 : zeroV Try.prog 115 = some V.un := by kernel_rfl
theorem kindD121 : kindD Try.prog 121 = some false := by kernel_rfl
theorem sizeD121 : sizeD Try.prog 121 = 1 := by kernel_rfl
theorem zeroV121 : zeroVs Try.prog 121 = some [V.d (D.con Value.nilFunc)] := by kernel_rfl
theorem zc121 : zeroCs Try.prog 121 = some [D.con Value.nilFunc] := by kernel_rfl
theorem zl121 : ((Try.prog.info? 121).bind (·.zero)).elim 0 (fun x => x.cells.size) = (zeroCs Try.prog 121).elim 0 List.length := by kernel_rfl
theorem zvo121 : zeroV Try.prog 121 = some (V.d (D.con Value.nilFunc)) := by kernel_rfl
theorem kindD122 : kindD Try.prog 122 = some false := by kernel_rfl
theorem sizeD122 : sizeD Try.prog 122 = 1 := by kernel_rfl
theorem zeroV122 : zeroVs Try.prog 122 = some [V.d (D.con Value.nilFunc)] := by kernel_rfl
theorem zc122 : zeroCs Try.prog 122 = some [D.con Value.nilFunc] := by kernel_rfl
theorem zl122 : ((Try.prog.info? 122).bind (·.zero)).elim 0 (fun x => x.cells.size) = (zeroCs Try.prog 122).elim 0 List.length := by kernel_rfl
theorem zvo122 : zeroV Try.prog 122 = some (V.d (D.con Value.nilFunc)) := by kernel_rfl
theorem kindD127 : kindD Try.prog 127 = some false := by kernel_rfl
theorem sizeD127 : sizeD Try.prog 127 = 1 := by kernel_rfl
theorem zeroV127 : zeroVs Try.prog 127 = some [V.d (D.con Value.nilFunc)] := by kernel_rfl
theorem zc127 : zeroCs Try.prog 127 = some [D.con Value.nilFunc] := by kernel_rfl
theorem zl127 : ((Try.prog.info? 127).bind (·.zero)).elim 0 (fun x => x.cells.size) = (zeroCs Try.prog 127).elim 0 List.length := by kernel_rfl
theorem zvo127 : zeroV Try.prog 127 = some (V.d (D.con Value.nilFunc)) := by kernel_rfl
theorem kindD130 : kindD Try.prog 130 = some false := by kernel_rfl
theorem sizeD130 : sizeD Try.prog 130 = 1 := by kernel_rfl
theorem zeroV130 : zeroVs Try.prog 130 = some [V.d (D.con Value.nilFunc)] := by kernel_rfl
theorem zc130 : zeroCs Try.prog 130 = some [D.con Value.nilFunc] := by kernel_rfl
theorem zl130 : ((Try.prog.info? 130).bind (·.zero)).elim 0 (fun x => x.cells.size) = (zeroCs Try.prog 130).elim 0 List.length := by kernel_rfl
theorem zvo130 : zeroV Try.prog 130 = some (V.d (D.con Value.nilFunc)) := by kernel_rfl
theorem kindD131 : kindD Try.prog 131 = some false := by kernel_rfl
theorem sizeD131 : sizeD Try.prog 131 = 1 := by kernel_rfl
theorem zeroV131 : zeroVs Try.prog 131 = some [V.d (D.con Value.nilFunc)] := by kernel_rfl
theorem zc131 : zeroCs Try.prog 131 = some [D.con Value.nilFunc] := by kernel_rfl
theorem zl131 : ((Try.prog.info? 131).bind (·.zero)).elim 0 (fun x => x.cells.size) = (zeroCs Try.prog 131).elim 0 List.length := by kernel_rfl
theorem zvo131 : zeroV Try.prog 131 = some (V.d (D.con Value.nilFunc)) := by kernel_rfl
theorem kindD132 : kindD Try.prog 132 = some false := by kernel_rfl
theorem sizeD132 : sizeD Try.prog 132 = 1 := by kernel_rfl
theorem zeroV132 : zeroVs Try.prog 132 = some [V.d (D.con Value.nilFunc)] := by kernel_rfl
theorem zc132 : zeroCs Try.prog 132 = some [D.con Value.nilFunc] := by kernel_rfl
theorem zl132 : ((Try.prog.info? 132).bind (·.zero)).elim 0 (fun x => x.cells.size) = (zeroCs Try.prog 132).elim 0 List.length := by kernel_rfl
theorem zvo132 : zeroV Try.prog 132 = some (V.d (D.con Value.nilFunc)) := by kernel_rfl
theorem kindD133 : kindD Try.prog 133 = some false := by kernel_rfl
theorem sizeD133 : sizeD Try.prog 133 = 1 := by kernel_rfl
theorem zeroV133 : zeroVs Try.prog 133 = some [V.d (D.con Value.nilFunc)] := by kernel_rfl
theorem zc133 : zeroCs Try.prog 133 = some [D.con Value.nilFunc] := by kernel_rfl
theorem zl133 : ((Try.prog.info? 133).bind (·.zero)).elim 0 (fun x => x.cells.size) = (zeroCs Try.prog 133).elim 0 List.length := by kernel_rfl
theorem zvo133 : zeroV Try.prog 133 = some (V.d (D.con Value.nilFunc)) := by kernel_rfl
theorem kindD134 : kindD Try.prog 134 = some false := by kernel_rfl
theorem sizeD134 : sizeD Try.prog 134 = 1 := by kernel_rfl
theorem zeroV134 : zeroVs Try.prog 134 = some [V.d (D.con Value.nilFunc)] := by kernel_rfl
theorem zc134 : zeroCs Try.prog 134 = some [D.con Value.nilFunc] := by kernel_rfl
theorem zl134 : ((Try.prog.info? 134).bind (·.zero)).elim 0 (fun x => x.cells.size) = (zeroCs Try.prog 134).elim 0 List.length := by kernel_rfl
theorem zvo134 : zeroV Try.prog 134 = some (V.d (D.con Value.nilFunc)) := by kernel_rfl
theorem kindD137 : kindD Try.prog 137 = some false := by kernel_rfl
theorem sizeD137 : sizeD Try.prog 137 = 1 := by kernel_rfl
theorem zeroV137 : zeroVs Try.prog 137 = some [V.un] := by kernel_rfl
theorem zvo137 : zeroV Try.prog 137 = some V.un := by kernel_rfl
theorem kindD143 : kindD Try.prog 143 = some false := by kernel_rfl
theorem sizeD143 : sizeD Try.prog 143 = 1 := by kernel_rfl
theorem zeroV143 : zeroVs Try.prog 143 = some [V.d (D.con (Value.map none))] := by kernel_rfl
theorem zc143 : zeroCs Try.prog 143 = some [D.con (Value.map none)] := by kernel_rfl
theorem zl143 : ((Try.prog.info? 143).bind (·.zero)).elim 0 (fun x => x.cells.size) = (zeroCs Try.prog 143).elim 0 List.length := by kernel_rfl
theorem mpt143 : mapTy Try.prog 143 = some (3, 41) := by kernel_rfl
theorem zvo143 : zeroV Try.prog 143 = some (V.d (D.con (Value.map none))) := by kernel_rfl
theorem kindD150 : kindD Try.prog 150 = some false := by kernel_rfl
theorem sizeD150 : sizeD Try.prog 150 = 1 := by kernel_rfl
theorem zeroV150 : zeroVs Try.prog 150 = some [V.d (D.con Value.nilFunc)] := by kernel_rfl
theorem zc150 : zeroCs Try.prog 150 = some [D.con Value.nilFunc] := by kernel_rfl
theorem zl150 : ((Try.prog.info? 150).bind (·.zero)).elim 0 (fun x => x.cells.size) = (zeroCs Try.prog 150).elim 0 List.length := by kernel_rfl
theorem zvo150 : zeroV Try.prog 150 = some (V.d (D.con Value.nilFunc)) := by kernel_rfl
theorem kindD151 : kindD Try.prog 151 = some false := by kernel_rfl
theorem sizeD151 : sizeD Try.prog 151 = 1 := by kernel_rfl
theorem zeroV151 : zeroVs Try.prog 151 = some [V.d (D.con Value.nilFunc)] := by kernel_rfl
theorem zc151 : zeroCs Try.prog 151 = some [D.con Value.nilFunc] := by kernel_rfl
theorem zl151 : ((Try.prog.info? 151).bind (·.zero)).elim 0 (fun x => x.cells.size) = (zeroCs Try.prog 151).elim 0 List.length := by kernel_rfl
theorem zvo151 : zeroV Try.prog 151 = some (V.d (D.con Value.nilFunc)) := by kernel_rfl
theorem kindD154 : kindD Try.prog 154 = some true := by kernel_rfl
theorem sizeD154 : sizeD Try.prog 154 = 2 := by kernel_rfl
theorem zeroV154 : zeroVs Try.prog 154 = some [V.d (D.int .i64 0), V.d (D.int .i64 0)] := by kernel_rfl
theorem zc154 : zeroCs Try.prog 154 = some [D.int .i64 0, D.int .i64 0] := by kernel_rfl
theorem zl154 : ((Try.prog.info? 154).bind (·.zero)).elim 0 (fun x => x.cells.size) = (zeroCs Try.prog 154).elim 0 List.length := by kernel_rfl
theorem place154 : placesD Try.prog 154 = some [(0, 1), (1, 1)] := by kernel_rfl
theorem zvo154 : zeroV Try.prog 154 = some (V.d (D.agg [D.int .i64 0, D.int .i64 0])) := by kernel_rfl
theorem leaf154 : leafOffs Try.prog 8 154 = some [(0, 0), (1, 0)] := by kernel_rfl
theorem eqg154 : Try.prog.eqGuardType Try.prog.depth 154 = false := by kernel_rfl
theorem fo154_0 : fieldOff Try.prog 154 0 = some (0, 2) := by kernel_rfl
theorem fo154_1 : fieldOff Try.prog 154 1 = some (1, 2) := by kernel_rfl
theorem u163 : Try.prog.underlying 163 = some (.int .u64) := by kernel_rfl
theorem kindD163 : kindD Try.prog 163 = some false := by kernel_rfl
theorem sizeD163 : sizeD Try.prog 163 = 1 := by kernel_rfl
theorem zeroV163 : zeroVs Try.prog 163 = some [V.d (D.int .u64 0)] := by kernel_rfl
theorem zc163 : zeroCs Try.prog 163 = some [D.int .u64 0] := by kernel_rfl
theorem zl163 : ((Try.prog.info? 163).bind (·.zero)).elim 0 (fun x => x.cells.size) = (zeroCs Try.prog 163).elim 0 List.length := by kernel_rfl
theorem zvo163 : zeroV Try.prog 163 = some (V.d (D.int .u64 0)) := by kernel_rfl
theorem kindD164 : kindD Try.prog 164 = some false := by kernel_rfl
theorem sizeD164 : sizeD Try.prog 164 = 1 := by kernel_rfl
theorem zeroV164 : zeroVs Try.prog 164 = some [V.un] := by kernel_rfl
theorem zvo164 : zeroV Try.prog 164 = some V.un := by kernel_rfl
theorem kindD168 : kindD Try.prog 168 = some false := by kernel_rfl
theorem sizeD168 : sizeD Try.prog 168 = 1 := by kernel_rfl
theorem zeroV168 : zeroVs Try.prog 168 = some [V.d (D.con Value.nilFunc)] := by kernel_rfl
theorem zc168 : zeroCs Try.prog 168 = some [D.con Value.nilFunc] := by kernel_rfl
theorem zl168 : ((Try.prog.info? 168).bind (·.zero)).elim 0 (fun x => x.cells.size) = (zeroCs Try.prog 168).elim 0 List.length := by kernel_rfl
theorem zvo168 : zeroV Try.prog 168 = some (V.d (D.con Value.nilFunc)) := by kernel_rfl
theorem kindD173 : kindD Try.prog 173 = some false := by kernel_rfl
theorem sizeD173 : sizeD Try.prog 173 = 1 := by kernel_rfl
theorem zeroV173 : zeroVs Try.prog 173 = some [V.d (D.con (Value.map none))] := by kernel_rfl
theorem zc173 : zeroCs Try.prog 173 = some [D.con (Value.map none)] := by kernel_rfl
theorem zl173 : ((Try.prog.info? 173).bind (·.zero)).elim 0 (fun x => x.cells.size) = (zeroCs Try.prog 173).elim 0 List.length := by kernel_rfl
theorem mpt173 : mapTy Try.prog 173 = some (3, 3) := by kernel_rfl
theorem zvo173 : zeroV Try.prog 173 = some (V.d (D.con (Value.map none))) := by kernel_rfl
theorem kindD186 : kindD Try.prog 186 = some false := by kernel_rfl
theorem sizeD186 : sizeD Try.prog 186 = 1 := by kernel_rfl
theorem zeroV186 : zeroVs Try.prog 186 = some [V.d (D.con Value.nilFunc)] := by kernel_rfl
theorem zc186 : zeroCs Try.prog 186 = some [D.con Value.nilFunc] := by kernel_rfl
theorem zl186 : ((Try.prog.info? 186).bind (·.zero)).elim 0 (fun x => x.cells.size) = (zeroCs Try.prog 186).elim 0 List.length := by kernel_rfl
theorem zvo186 : zeroV Try.prog 186 = some (V.d (D.con Value.nilFunc)) := by kernel_rfl
theorem kindD189 : kindD Try.prog 189 = some false := by kernel_rfl
theorem sizeD189 : sizeD Try.prog 189 = 1 := by kernel_rfl
theorem zeroV189 : zeroVs Try.prog 189 = some [V.d (D.con Value.nilFunc)] := by kernel_rfl
theorem zc189 : zeroCs Try.prog 189 = some [D.con Value.nilFunc] := by kernel_rfl
theorem zl189 : ((Try.prog.info? 189).bind (·.zero)).elim 0 (fun x => x.cells.size) = (zeroCs Try.prog 189).elim 0 List.length := by kernel_rfl
theorem zvo189 : zeroV Try.prog 189 = some (V.d (D.con Value.nilFunc)) := by kernel_rfl
theorem kindD191 : kindD Try.prog 191 = some false := by kernel_rfl
theorem sizeD191 : sizeD Try.prog 191 = 1 := by kernel_rfl
theorem zeroV191 : zeroVs Try.prog 191 = some [V.d (D.con Value.nilFunc)] := by kernel_rfl
theorem zc191 : zeroCs Try.prog 191 = some [D.con Value.nilFunc] := by kernel_rfl
theorem zl191 : ((Try.prog.info? 191).bind (·.zero)).elim 0 (fun x => x.cells.size) = (zeroCs Try.prog 191).elim 0 List.length := by kernel_rfl
theorem zvo191 : zeroV Try.prog 191 = some (V.d (D.con Value.nilFunc)) := by kernel_rfl
theorem kindD194 : kindD Try.prog 194 = some false := by kernel_rfl
theorem sizeD194 : sizeD Try.prog 194 = 1 := by kernel_rfl
theorem zeroV194 : zeroVs Try.prog 194 = some [V.un] := by kernel_rfl
theorem zvo194 : zeroV Try.prog 194 = some V.un := by kernel_rfl
theorem kindD198 : kindD Try.prog 198 = some true := by kernel_rfl
theorem sizeD198 : sizeD Try.prog 198 = 3 := by kernel_rfl
theorem zeroV198 : zeroVs Try.prog 198 = some [V.d (D.int .u64 0), V.d (D.int .u64 0), V.d (D.bool false)] := by kernel_rfl
theorem zc198 : zeroCs Try.prog 198 = some [D.int .u64 0, D.int .u64 0, D.bool false] := by kernel_rfl
theorem zl198 : ((Try.prog.info? 198).bind (·.zero)).elim 0 (fun x => x.cells.size) = (zeroCs Try.prog 198).elim 0 List.length := by kernel_rfl
theorem place198 : placesD Try.prog 198 = some [(0, 1), (1, 1), (2, 1)] := by kernel_rfl
theorem zvo198 : zeroV Try.prog 198 = some (V.d (D.agg [D.int .u64 0, D.int .u64 0, D.bool false])) := by kernel_rfl
theorem leaf198 : leafOffs Try.prog 8 198 = some [(0, 0), (1, 0), (2, 1)] := by kernel_rfl
theorem eqg198 : Try.prog.eqGuardType Try.prog.depth 198 = false := by kernel_rfl
theorem fo198_0 : fieldOff Try.prog 198 0 = some (0, 163) := by kernel_rfl
theorem fo198_1 : fieldOff Try.prog 198 1 = some (1, 163) := by kernel_rfl
theorem fo198_2 : fieldOff Try.prog 198 2 = some (2, 4) := by kernel_rfl
theorem kindD206 : kindD Try.prog 206 = some false := by kernel_rfl
theorem sizeD206 : sizeD Try.prog 206 = 1 := by kernel_rfl
theorem zeroV206 : zeroVs Try.prog 206 = some [V.d (D.con Value.nilFunc)] := by kernel_rfl
theorem zc206 : zeroCs Try.prog 206 = some [D.con Value.nilFunc] := by kernel_rfl
theorem zl206 : ((Try.prog.info? 206).bind (·.zero)).elim 0 (fun x => x.cells.size) = (zeroCs Try.prog 206).elim 0 List.length := by kernel_rfl
theorem zvo206 : zeroV Try.prog 206 = some (V.d (D.con Value.nilFunc)) := by kernel_rfl
theorem u209 : Try.prog.underlying 209 = some (.int .u64) := by kernel_rfl
theorem kindD209 : kindD Try.prog 209 = some false := by kernel_rfl
theorem sizeD209 : sizeD Try.prog 209 = 1 := by kernel_rfl
theorem zeroV209 : zeroVs Try.prog 209 = some [V.d (D.int .u64 0)] := by kernel_rfl
theorem zc209 : zeroCs Try.prog 209 = some [D.int .u64 0] := by kernel_rfl
theorem zl209 : ((Try.prog.info? 209).bind (·.zero)).elim 0 (fun x => x.cells.size) = (zeroCs Try.prog 209).elim 0 List.length := by kernel_rfl
theorem zvo209 : zeroV Try.prog 209 = some (V.d (D.int .u64 0)) := by kernel_rfl
theorem u222 : Try.prog.underlying 222 = some (.int .i64) := by kernel_rfl
theorem kindD222 : kindD Try.prog 222 = some false := by kernel_rfl
theorem sizeD222 : sizeD Try.prog 222 = 1 := by kernel_rfl
theorem zeroV222 : zeroVs Try.prog 222 = some [V.d (D.int .i64 0)] := by kernel_rfl
theorem zc222 : zeroCs Try.prog 222 = some [D.int .i64 0] := by kernel_rfl
theorem zl222 : ((Try.prog.info? 222).bind (·.zero)).elim 0 (fun x => x.cells.size) = (zeroCs Try.prog 222).elim 0 List.length := by kernel_rfl
theorem zvo222 : zeroV Try.prog 222 = some (V.d (D.int .i64 0)) := by kernel_rfl
theorem kindD223 : kindD Try.prog 223 = some false := by kernel_rfl
theorem sizeD223 : sizeD Try.prog 223 = 1 := by kernel_rfl
theorem zeroV223 : zeroVs Try.prog 223 = some [V.un] := by kernel_rfl
theorem zvo223 : zeroV Try.prog 223 = some V.un := by kernel_rfl
theorem u233 : Try.prog.underlying 233 = some (.int .u64) := by kernel_rfl
theorem kindD233 : kindD Try.prog 233 = some false := by kernel_rfl
theorem sizeD233 : sizeD Try.prog 233 = 1 := by kernel_rfl
theorem zeroV233 : zeroVs Try.prog 233 = some [V.d (D.int .u64 0)] := by kernel_rfl
theorem zc233 : zeroCs Try.prog 233 = some [D.int .u64 0] := by kernel_rfl
theorem zl233 : ((Try.prog.info? 233).bind (·.zero)).elim 0 (fun x => x.cells.size) = (zeroCs Try.prog 233).elim 0 List.length := by kernel_rfl
theorem zvo233 : zeroV Try.prog 233 = some (V.d (D.int .u64 0)) := by kernel_rfl
theorem kindD237 : kindD Try.prog 237 = some false := by kernel_rfl
theorem sizeD237 : sizeD Try.prog 237 = 1 := by kernel_rfl
theorem zeroV237 : zeroVs Try.prog 237 = some [V.d (D.con (Value.pointer none))] := by kernel_rfl
theorem zc237 : zeroCs Try.prog 237 = some [D.con (Value.pointer none)] := by kernel_rfl
theorem zl237 : ((Try.prog.info? 237).bind (·.zero)).elim 0 (fun x => x.cells.size) = (zeroCs Try.prog 237).elim 0 List.length := by kernel_rfl
theorem isp237 : isPtr Try.prog 237 = true := by kernel_rfl
theorem zvo237 : zeroV Try.prog 237 = some (V.d (D.con (Value.pointer none))) := by kernel_rfl
theorem kindD240 : kindD Try.prog 240 = some false := by kernel_rfl
theorem sizeD240 : sizeD Try.prog 240 = 1 := by kernel_rfl
theorem zeroV240 : zeroVs Try.prog 240 = some [V.un] := by kernel_rfl
theorem zvo240 : zeroV Try.prog 240 = some V.un := by kernel_rfl
theorem hb0 : hasBody Try.prog 0 = false := by kernel_rfl
theorem hb1 : hasBody Try.prog 1 = false := by kernel_rfl
theorem hb2 : hasBody Try.prog 2 = true := by kernel_rfl
theorem hb8 : hasBody Try.prog 8 = true := by kernel_rfl
theorem hb19 : hasBody Try.prog 19 = true := by kernel_rfl
theorem hb32 : hasBody Try.prog 32 = true := by kernel_rfl
theorem hb33 : hasBody Try.prog 33 = true := by kernel_rfl
theorem hb34 : hasBody Try.prog 34 = true := by kernel_rfl
theorem hb35 : hasBody Try.prog 35 = true := by kernel_rfl
theorem hb36 : hasBody Try.prog 36 = true := by kernel_rfl
theorem hb37 : hasBody Try.prog 37 = true := by kernel_rfl
theorem hb38 : hasBody Try.prog 38 = true := by kernel_rfl
theorem hb39 : hasBody Try.prog 39 = true := by kernel_rfl
theorem hb40 : hasBody Try.prog 40 = true := by kernel_rfl
theorem hb41 : hasBody Try.prog 41 = true := by kernel_rfl
theorem hb42 : hasBody Try.prog 42 = true := by kernel_rfl
theorem hb43 : hasBody Try.prog 43 = true := by kernel_rfl
theorem hb44 : hasBody Try.prog 44 = true := by kernel_rfl
theorem hb45 : hasBody Try.prog 45 = true := by kernel_rfl
theorem hb46 : hasBody Try.prog 46 = true := by kernel_rfl
theorem hb47 : hasBody Try.prog 47 = true := by kernel_rfl
theorem hb48 : hasBody Try.prog 48 = true := by kernel_rfl
theorem hb49 : hasBody Try.prog 49 = true := by kernel_rfl
theorem hb50 : hasBody Try.prog 50 = true := by kernel_rfl
theorem hb51 : hasBody Try.prog 51 = true := by kernel_rfl
theorem hb52 : hasBody Try.prog 52 = true := by kernel_rfl
theorem hb54 : hasBody Try.prog 54 = true := by kernel_rfl
theorem hb56 : hasBody Try.prog 56 = true := by kernel_rfl
theorem hb58 : hasBody Try.prog 58 = true := by kernel_rfl
theorem hb59 : hasBody Try.prog 59 = true := by kernel_rfl
theorem hb60 : hasBody Try.prog 60 = true := by kernel_rfl
theorem hb61 : hasBody Try.prog 61 = true := by kernel_rfl
theorem hb62 : hasBody Try.prog 62 = true := by kernel_rfl
theorem hb66 : hasBody Try.prog 66 = true := by kernel_rfl
theorem hb67 : hasBody Try.prog 67 = true := by kernel_rfl
theorem hb68 : hasBody Try.prog 68 = true := by kernel_rfl
theorem hb69 : hasBody Try.prog 69 = true := by kernel_rfl
theorem hb70 : hasBody Try.prog 70 = true := by kernel_rfl
theorem hb78 : hasBody Try.prog 78 = true := by kernel_rfl
theorem hb102 : hasBody Try.prog 102 = true := by kernel_rfl
theorem hb103 : hasBody Try.prog 103 = true := by kernel_rfl
theorem hb104 : hasBody Try.prog 104 = true := by kernel_rfl
theorem hb105 : hasBody Try.prog 105 = true := by kernel_rfl
theorem hb106 : hasBody Try.prog 106 = true := by kernel_rfl
theorem hb107 : hasBody Try.prog 107 = true := by kernel_rfl
theorem hb108 : hasBody Try.prog 108 = true := by kernel_rfl
theorem hb109 : hasBody Try.prog 109 = true := by kernel_rfl
theorem hb110 : hasBody Try.prog 110 = true := by kernel_rfl
theorem hb111 : hasBody Try.prog 111 = true := by kernel_rfl
theorem hb112 : hasBody Try.prog 112 = true := by kernel_rfl
theorem hb113 : hasBody Try.prog 113 = true := by kernel_rfl
theorem hb114 : hasBody Try.prog 114 = true := by kernel_rfl
theorem hb115 : hasBody Try.prog 115 = true := by kernel_rfl
theorem hb116 : hasBody Try.prog 116 = true := by kernel_rfl
theorem hb117 : hasBody Try.prog 117 = true := by kernel_rfl
theorem hb118 : hasBody Try.prog 118 = true := by kernel_rfl
theorem hb119 : hasBody Try.prog 119 = true := by kernel_rfl
theorem hb120 : hasBody Try.prog 120 = true := by kernel_rfl
theorem hb121 : hasBody Try.prog 121 = true := by kernel_rfl
theorem hb122 : hasBody Try.prog 122 = true := by kernel_rfl
theorem hb123 : hasBody Try.prog 123 = true := by kernel_rfl
theorem hb124 : hasBody Try.prog 124 = true := by kernel_rfl
theorem hb125 : hasBody Try.prog 125 = true := by kernel_rfl
theorem hb126 : hasBody Try.prog 126 = true := by kernel_rfl
theorem hb127 : hasBody Try.prog 127 = true := by kernel_rfl
theorem hb128 : hasBody Try.prog 128 = true := by kernel_rfl
theorem hb129 : hasBody Try.prog 129 = true := by kernel_rfl
theorem hb130 : hasBody Try.prog 130 = true := by kernel_rfl
theorem hb133 : hasBody Try.prog 133 = true := by kernel_rfl
theorem hb134 : hasBody Try.prog 134 = true := by kernel_rfl
theorem hb135 : hasBody Try.prog 135 = true := by kernel_rfl
theorem hb136 : hasBody Try.prog 136 = true := by kernel_rfl
theorem hb137 : hasBody Try.prog 137 = true := by kernel_rfl
theorem hb138 : hasBody Try.prog 138 = true := by kernel_rfl
theorem hb139 : hasBody Try.prog 139 = true := by kernel_rfl
theorem hb140 : hasBody Try.prog 140 = true := by kernel_rfl
theorem hb141 : hasBody Try.prog 141 = true := by kernel_rfl
theorem hb142 : hasBody Try.prog 142 = true := by kernel_rfl
theorem hb143 : hasBody Try.prog 143 = true := by kernel_rfl
theorem hb144 : hasBody Try.prog 144 = true := by kernel_rfl
theorem hb145 : hasBody Try.prog 145 = true := by kernel_rfl
theorem hb146 : hasBody Try.prog 146 = true := by kernel_rfl
theorem hb147 : hasBody Try.prog 147 = true := by kernel_rfl
theorem hb148 : hasBody Try.prog 148 = true := by kernel_rfl
theorem hb149 : hasBody Try.prog 149 = true := by kernel_rfl
theorem hb150 : hasBody Try.prog 150 = true := by kernel_rfl
theorem hb155 : hasBody Try.prog 155 = true := by kernel_rfl
theorem hb156 : hasBody Try.prog 156 = true := by kernel_rfl
theorem hb181 : hasBody Try.prog 181 = true := by kernel_rfl
theorem hb182 : hasBody Try.prog 182 = true := by kernel_rfl
theorem hb183 : hasBody Try.prog 183 = false := by kernel_rfl
theorem hb184 : hasBody Try.prog 184 = true := by kernel_rfl
theorem hb185 : hasBody Try.prog 185 = true := by kernel_rfl
theorem hb186 : hasBody Try.prog 186 = true := by kernel_rfl
theorem hb187 : hasBody Try.prog 187 = true := by kernel_rfl
theorem hb188 : hasBody Try.prog 188 = true := by kernel_rfl
theorem hb189 : hasBody Try.prog 189 = true := by kernel_rfl
theorem hb190 : hasBody Try.prog 190 = true := by kernel_rfl
theorem hb192 : hasBody Try.prog 192 = true := by kernel_rfl
theorem hb193 : hasBody Try.prog 193 = true := by kernel_rfl
theorem hb194 : hasBody Try.prog 194 = true := by kernel_rfl
theorem hb195 : hasBody Try.prog 195 = true := by kernel_rfl
theorem hb196 : hasBody Try.prog 196 = true := by kernel_rfl
theorem hb197 : hasBody Try.prog 197 = true := by kernel_rfl
theorem hb198 : hasBody Try.prog 198 = true := by kernel_rfl
theorem hb199 : hasBody Try.prog 199 = true := by kernel_rfl
theorem hb202 : hasBody Try.prog 202 = true := by kernel_rfl
theorem hb207 : hasBody Try.prog 207 = true := by kernel_rfl
theorem hb208 : hasBody Try.prog 208 = true := by kernel_rfl
theorem hb209 : hasBody Try.prog 209 = true := by kernel_rfl
theorem hb210 : hasBody Try.prog 210 = true := by kernel_rfl
theorem hb215 : hasBody Try.prog 215 = true := by kernel_rfl
theorem hb218 : hasBody Try.prog 218 = true := by kernel_rfl
theorem hb219 : hasBody Try.prog 219 = true := by kernel_rfl
theorem hb220 : hasBody Try.prog 220 = true := by kernel_rfl
theorem hb221 : hasBody Try.prog 221 = true := by kernel_rfl
theorem hb222 : hasBody Try.prog 222 = true := by kernel_rfl
theorem hb223 : hasBody Try.prog 223 = true := by kernel_rfl
theorem hb224 : hasBody Try.prog 224 = true := by kernel_rfl
theorem hb225 : hasBody Try.prog 225 = true := by kernel_rfl
theorem hb226 : hasBody Try.prog 226 = true := by kernel_rfl
theorem hb231 : hasBody Try.prog 231 = true := by kernel_rfl
theorem hb232 : hasBody Try.prog 232 = true := by kernel_rfl
theorem hb233 : hasBody Try.prog 233 = true := by kernel_rfl
theorem hb234 : hasBody Try.prog 234 = true := by kernel_rfl
theorem hb235 : hasBody Try.prog 235 = true := by kernel_rfl
theorem hb236 : hasBody Try.prog 236 = true := by kernel_rfl
theorem hb237 : hasBody Try.prog 237 = true := by kernel_rfl
attribute [simp] kindD0 sizeD0 zeroV0 zvo0 kindD1 sizeD1 zeroV1 zc1 zl1 zvo1 u2 kindD2 sizeD2 zeroV2 zc2 zl2 zvo2 u3 kindD3 sizeD3 zeroV3 zc3 zl3 zvo3 u4 kindD4 sizeD4 zeroV4 zc4 zl4 zvo4 u5 kindD5 sizeD5 zeroV5 zc5 zl5 zvo5 u6 kindD6 sizeD6 zeroV6 zc6 zl6 zvo6 kindD7 sizeD7 zeroV7 zc7 zl7 place7 zvo7 leaf7 eqg7 fo7_0 fo7_1 fo7_2 fo7_3 kindD8 sizeD8 zeroV8 zc8 zl8 place8 zvo8 leaf8 eqg8 fo8_0 fo8_1 fo8_2 fo8_3 u9 kindD9 sizeD9 zeroV9 zc9 zl9 zvo9 u10 kindD10 sizeD10 zeroV10 zc10 zl10 zvo10 u11 kindD11 sizeD11 zeroV11 zc11 zl11 zvo11 u12 kindD12 sizeD12 zeroV12 zc12 zl12 zvo12 kindD13 sizeD13 zeroV13 zc13 zl13 place13 zvo13 eqg13 fo13_0 fo13_1 kindD14 sizeD14 zeroV14 zc14 zl14 place14 zvo14 eqg14 fo14_0 fo14_1 kindD15 sizeD15 zeroV15 zc15 zl15 isp15 zvo15 kindD16 sizeD16 zeroV16 zc16 zl16 isp16 zvo16 kindD17 sizeD17 zeroV17 zc17 zl17 isp17 zvo17 kindD18 sizeD18 zeroV18 zc18 zl18 place18 zvo18 eqg18 fo18_0 kindD19 sizeD19 zeroV19 zc19 zl19 place19 zvo19 eqg19 fo19_0 kindD20 sizeD20 zeroV20 zc20 zl20 zvo20 u21 kindD21 sizeD21 zeroV21 zc21 zl21 zvo21 u22 kindD22 sizeD22 elI22 elemT22 esz22 zeroV22 zc22 zl22 zvo22 u23 kindD23 sizeD23 elI23 elemT23 esz23 zeroV23 zc23 zl23 zvo23 u24 kindD24 sizeD24 elI24 elemT24 esz24 zeroV24 zc24 zl24 zvo24 u25 kindD25 sizeD25 elI25 elemT25 esz25 zeroV25 zc25 zl25 zvo25 u26 kindD26 sizeD26 elI26 elemT26 esz26 zeroV26 zc26 zl26 zvo26 kindD27 sizeD27 zeroV27 zc27 zl27 place27 zvo27 eqg27 fo27_0 fo27_1 fo27_2 fo27_3 fo27_4 fo27_5 fo27_6 fo27_7 kindD28 sizeD28 zeroV28 zc28 zl28 place28 zvo28 eqg28 fo28_0 fo28_1 fo28_2 fo28_3 fo28_4 fo28_5 fo28_6 fo28_7 kindD29 sizeD29 zeroV29 zc29 zl29 zvo29 kindD30 sizeD30 zeroV30 zc30 zl30 zvo30 u31 kindD31 sizeD31 elI31 elemT31 esz31 zeroV31 zc31 zl31 zvo31 kindD32 sizeD32 zeroV32 zc32 zl32 zvo32 kindD33 sizeD33 zeroV33 zc33 zl33 zvo33 u34 kindD34 sizeD34 elI34 elemT34 esz34 zeroV34 zc34 zl34 zvo34 kindD35 sizeD35 zeroV35 zc35 zl35 zvo35 kindD36 sizeD36 zeroV36 zc36 zl36 zvo36 kindD37 sizeD37 zeroV37 zc37 zl37 zvo37 kindD38 sizeD38 zeroV38 zc38 zl38 place38 zvo38 leaf38 eqg38 fo38_0 fo38_1 kindD39 sizeD39 zeroV39 zc39 zl39 place39 zvo39 leaf39 eqg39 fo39_0 fo39_1 kindD40 sizeD40 zeroV40 zc40 zl40 place40 zvo40 leaf40 eqg40 fo40_0 fo40_1 kindD41 sizeD41 zeroV41 zc41 zl41 place41 zvo41 leaf41 eqg41 fo41_0 fo41_1 kindD42 sizeD42 zeroV42 zc42 zl42 place42 zvo42 leaf42 eqg42 fo42_0 fo42_1 fo42_2 fo42_3 fo42_4 kindD43 sizeD43 zeroV43 zc43 zl43 place43 zvo43 leaf43 eqg43 fo43_0 fo43_1 fo43_2 fo43_3 fo43_4 kindD44 sizeD44 zeroV44 zc44 zl44 zvo44 u45 kindD45 sizeD45 zeroV45 zc45 zl45 zvo45 kindD46 sizeD46 zeroV46 zvo46 kindD47 sizeD47 zeroV47 zc47 zl47 zvo47 u48 kindD48 sizeD48 elI48 elemT48 esz48 zeroV48 zc48 zl48 zvo48 kindD49 sizeD49 zeroV49 zvo49 kindD50 sizeD50 zeroV50 zc50 zl50 zvo50 kindD51 sizeD51 zeroV51 zc51 zl51 zvo51 kindD52 sizeD52 zeroV52 zc52 zl52 zvo52 kindD53 sizeD53 zeroV53 zc53 zl53 zvo53 kindD54 sizeD54 zeroV54 zc54 zl54 zvo54 kindD56 sizeD56 zeroV56 zc56 zl56 zvo56 kindD57 sizeD57 zeroV57 zc57 zl57 zvo57 kindD58 sizeD58 zeroV58 zc58 zl58 zvo58 kindD59 sizeD59 zeroV59 zc59 zl59 zvo59 u60 kindD60 sizeD60 elI60 elemT60 esz60 zeroV60 zc60 zl60 zvo60 kindD61 sizeD61 zeroV61 zvo61 u65 kindD65 sizeD65 elI65 elemT65 esz65 zeroV65 zc65 zl65 zvo65 kindD66 sizeD66 zeroV66 zvo66 kindD68 sizeD68 zeroV68 zc68 zl68 place68 zvo68 leaf68 eqg68 fo68_0 fo68_1 kindD69 sizeD69 zeroV69 zc69 zl69 place69 zvo69 leaf69 eqg69 fo69_0 fo69_1 kindD74 sizeD74 zeroV74 zc74 zl74 zvo74 kindD76 sizeD76 zeroV76 zc76 zl76 zvo76 kindD78 sizeD78 zeroV78 zvo78 kindD84 sizeD84 zeroV84 zc84 zl84 zvo84 kindD86 sizeD86 zeroV86 zc86 zl86 place86 zvo86 eqg86 fo86_0 fo86_1 fo86_2 fo86_3 fo86_4 fo86_5 fo86_6 fo86_7 kindD89 sizeD89 zeroV89 zc89 zl89 zvo89 kindD91 sizeD91 zeroV91 zc91 zl91 zvo91 kindD93 sizeD93 zeroV93 zc93 zl93 place93 zvo93 leaf93 eqg93 fo93_0 fo93_1 fo93_2 fo93_3 fo93_4 kindD95 sizeD95 zeroV95 zc95 zl95 place95 zvo95 eqg95 fo95_0 fo95_1 fo95_2 fo95_3 fo95_4 fo95_5 kindD98 sizeD98 zeroV98 zc98 zl98 zvo98 kindD107 sizeD107 zeroV107 zc107 zl107 place107 zvo107 leaf107 eqg107 fo107_0 fo107_1 kindD112 sizeD112 zeroV112 zc112 zl112 place112 zvo112 leaf112 eqg112 fo112_0 fo112_1 kindD115 sizeD115 zeroV115 zvo115 kindD121 sizeD121 zeroV121 zc121 zl121 zvo121 kindD122 sizeD122 zeroV122 zc122 zl122 zvo122 kindD127 sizeD127 zeroV127 zc127 zl127 zvo127 kindD130 sizeD130 zeroV130 zc130 zl130 zvo130 kindD131 sizeD131 zeroV131 zc131 zl131 zvo131 kindD132 sizeD132 zeroV132 zc132 zl132 zvo132 kindD133 sizeD133 zeroV133 zc133 zl133 zvo133 kindD134 sizeD134 zeroV134 zc134 zl134 zvo134 kindD137 sizeD137 zeroV137 zvo137 kindD143 sizeD143 zeroV143 zc143 zl143 mpt143 zvo143 kindD150 sizeD150 zeroV150 zc150 zl150 zvo150 kindD151 sizeD151 zeroV151 zc151 zl151 zvo151 kindD154 sizeD154 zeroV154 zc154 zl154 place154 zvo154 leaf154 eqg154 fo154_0 fo154_1 u163 kindD163 sizeD163 zeroV163 zc163 zl163 zvo163 kindD164 sizeD164 zeroV164 zvo164 kindD168 sizeD168 zeroV168 zc168 zl168 zvo168 kindD173 sizeD173 zeroV173 zc173 zl173 mpt173 zvo173 kindD186 sizeD186 zeroV186 zc186 zl186 zvo186 kindD189 sizeD189 zeroV189 zc189 zl189 zvo189 kindD191 sizeD191 zeroV191 zc191 zl191 zvo191 kindD194 sizeD194 zeroV194 zvo194 kindD198 sizeD198 zeroV198 zc198 zl198 place198 zvo198 leaf198 eqg198 fo198_0 fo198_1 fo198_2 kindD206 sizeD206 zeroV206 zc206 zl206 zvo206 u209 kindD209 sizeD209 zeroV209 zc209 zl209 zvo209 u222 kindD222 sizeD222 zeroV222 zc222 zl222 zvo222 kindD223 sizeD223 zeroV223 zvo223 u233 kindD233 sizeD233 zeroV233 zc233 zl233 zvo233 kindD237 sizeD237 zeroV237 zc237 zl237 isp237 zvo237 kindD240 sizeD240 zeroV240 zvo240 hb0 hb1 hb2 hb8 hb19 hb32 hb33 hb34 hb35 hb36 hb37 hb38 hb39 hb40 hb41 hb42 hb43 hb44 hb45 hb46 hb47 hb48 hb49 hb50 hb51 hb52 hb54 hb56 hb58 hb59 hb60 hb61 hb62 hb66 hb67 hb68 hb69 hb70 hb78 hb102 hb103 hb104 hb105 hb106 hb107 hb108 hb109 hb110 hb111 hb112 hb113 hb114 hb115 hb116 hb117 hb118 hb119 hb120 hb121 hb122 hb123 hb124 hb125 hb126 hb127 hb128 hb129 hb130 hb133 hb134 hb135 hb136 hb137 hb138 hb139 hb140 hb141 hb142 hb143 hb144 hb145 hb146 hb147 hb148 hb149 hb150 hb155 hb156 hb181 hb182 hb183 hb184 hb185 hb186 hb187 hb188 hb189 hb190 hb192 hb193 hb194 hb195 hb196 hb197 hb198 hb199 hb202 hb207 hb208 hb209 hb210 hb215 hb218 hb219 hb220 hb221 hb222 hb223 hb224 hb225 hb226 hb231 hb232 hb233 hb234 hb235 hb236 hb237
end Go.Idl
