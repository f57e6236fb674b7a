/- Closed facts on the seat's types, printed by genfacts.py (a program of mine) off the loaded program; each is checked by the kernel.; Queues as plain data: what the document's answer and the program compute on them. No program here. -/
import Derived.Test.YtkfpaffcglijeaaProg
import Derived.KernelRfl
import Derived.Test.YtkfpaffcglijeaaQueueApartPart13
set_option linter.all false
section
namespace Go.Idl
open Go.Proofs
theorem mixed : Try.prog.follows .mixedOrders = true := by kernel_rfl
theorem kindD0 : kindD Try.prog 0 = some false := by kernel_rfl
theorem sizeD0 : sizeD Try.prog 0 = 1 := by kernel_rfl
theorem zeroV0 : zeroVs Try.prog 0 = some [V.un] := by kernel_rfl
theorem zvo0 : zeroV Try.prog 0 = some V.un := by kernel_rfl
theorem kindD1 : kindD Try.prog 1 = some false := by kernel_rfl
theorem sizeD1 : sizeD Try.prog 1 = 1 := by kernel_rfl
theorem zeroV1 : zeroVs Try.prog 1 = some [V.d (D.con Value.nilFunc)] := by kernel_rfl
theorem zc1 : zeroCs Try.prog 1 = some [D.con Value.nilFunc] := by kernel_rfl
theorem zl1 : ((Try.prog.info? 1).bind (·.zero)).elim 0 (fun x => x.cells.size) = (zeroCs Try.prog 1).elim 0 List.length := by kernel_rfl
theorem zvo1 : zeroV Try.prog 1 = some (V.d (D.con Value.nilFunc)) := by kernel_rfl
theorem u2 : Try.prog.underlying 2 = some (.int .i64) := by kernel_rfl
theorem kindD2 : kindD Try.prog 2 = some false := by kernel_rfl
theorem sizeD2 : sizeD Try.prog 2 = 1 := by kernel_rfl
theorem zeroV2 : zeroVs Try.prog 2 = some [V.d (D.int .i64 0)] := by kernel_rfl
theorem zc2 : zeroCs Try.prog 2 = some [D.int .i64 0] := by kernel_rfl
theorem zl2 : ((Try.prog.info? 2).bind (·.zero)).elim 0 (fun x => x.cells.size) = (zeroCs Try.prog 2).elim 0 List.length := by kernel_rfl
theorem zvo2 : zeroV Try.prog 2 = some (V.d (D.int .i64 0)) := by kernel_rfl
theorem u3 : Try.prog.underlying 3 = some (.int .i64) := by kernel_rfl
theorem kindD3 : kindD Try.prog 3 = some false := by kernel_rfl
theorem sizeD3 : sizeD Try.prog 3 = 1 := by kernel_rfl
theorem zeroV3 : zeroVs Try.prog 3 = some [V.d (D.int .i64 0)] := by kernel_rfl
theorem zc3 : zeroCs Try.prog 3 = some [D.int .i64 0] := by kernel_rfl
theorem zl3 : ((Try.prog.info? 3).bind (·.zero)).elim 0 (fun x => x.cells.size) = (zeroCs Try.prog 3).elim 0 List.length := by kernel_rfl
theorem zvo3 : zeroV Try.prog 3 = some (V.d (D.int .i64 0)) := by kernel_rfl
theorem u4 : Try.prog.underlying 4 = some .bool := by kernel_rfl
theorem kindD4 : kindD Try.prog 4 = some false := by kernel_rfl
theorem sizeD4 : sizeD Try.prog 4 = 1 := by kernel_rfl
theorem zeroV4 : zeroVs Try.prog 4 = some [V.d (D.bool false)] := by kernel_rfl
theorem zc4 : zeroCs Try.prog 4 = some [D.bool false] := by kernel_rfl
theorem zl4 : ((Try.prog.info? 4).bind (·.zero)).elim 0 (fun x => x.cells.size) = (zeroCs Try.prog 4).elim 0 List.length := by kernel_rfl
theorem zvo4 : zeroV Try.prog 4 = some (V.d (D.bool false)) := by kernel_rfl
theorem u5 : Try.prog.underlying 5 = some (.int .u8) := by kernel_rfl
theorem kindD5 : kindD Try.prog 5 = some false := by kernel_rfl
theorem sizeD5 : sizeD Try.prog 5 = 1 := by kernel_rfl
theorem zeroV5 : zeroVs Try.prog 5 = some [V.d (D.int .u8 0)] := by kernel_rfl
theorem zc5 : zeroCs Try.prog 5 = some [D.int .u8 0] := by kernel_rfl
theorem zl5 : ((Try.prog.info? 5).bind (·.zero)).elim 0 (fun x => x.cells.size) = (zeroCs Try.prog 5).elim 0 List.length := by kernel_rfl
theorem zvo5 : zeroV Try.prog 5 = some (V.d (D.int .u8 0)) := by kernel_rfl
theorem u6 : Try.prog.underlying 6 = some (.int .u8) := by kernel_rfl
theorem kindD6 : kindD Try.prog 6 = some false := by kernel_rfl
theorem sizeD6 : sizeD Try.prog 6 = 1 := by kernel_rfl
theorem zeroV6 : zeroVs Try.prog 6 = some [V.d (D.int .u8 0)] := by kernel_rfl
theorem zc6 : zeroCs Try.prog 6 = some [D.int .u8 0] := by kernel_rfl
theorem zl6 : ((Try.prog.info? 6).bind (·.zero)).elim 0 (fun x => x.cells.size) = (zeroCs Try.prog 6).elim 0 List.length := by kernel_rfl
theorem zvo6 : zeroV Try.prog 6 = some (V.d (D.int .u8 0)) := by kernel_rfl
theorem kindD7 : kindD Try.prog 7 = some true := by kernel_rfl
theorem sizeD7 : sizeD Try.prog 7 = 4 := by kernel_rfl
theorem zeroV7 : zeroVs Try.prog 7 = some [V.d (D.int .i64 0), V.d (D.int .i64 0), V.d (D.bool false), V.d (D.int .u8 0)] := by kernel_rfl
theorem zc7 : zeroCs Try.prog 7 = some [D.int .i64 0, D.int .i64 0, D.bool false, D.int .u8 0] := by kernel_rfl
theorem zl7 : ((Try.prog.info? 7).bind (·.zero)).elim 0 (fun x => x.cells.size) = (zeroCs Try.prog 7).elim 0 List.length := by kernel_rfl
theorem place7 : placesD Try.prog 7 = some [(0, 1), (1, 1), (2, 1), (3, 1)] := by kernel_rfl
theorem zvo7 : zeroV Try.prog 7 = some (V.d (D.agg [D.int .i64 0, D.int .i64 0, D.bool false, D.int .u8 0])) := by kernel_rfl
theorem leaf7 : leafOffs Try.prog 8 7 = some [(0, 0), (1, 0), (2, 1), (3, 0)] := by kernel_rfl
theorem eqg7 : Try.prog.eqGuardType Try.prog.depth 7 = false := by kernel_rfl
theorem fo7_0 : fieldOff Try.prog 7 0 = some (0, 2) := by kernel_rfl
theorem fo7_1 : fieldOff Try.prog 7 1 = some (1, 3) := by kernel_rfl
theorem fo7_2 : fieldOff Try.prog 7 2 = some (2, 4) := by kernel_rfl
theorem fo7_3 : fieldOff Try.prog 7 3 = some (3, 6) := by kernel_rfl
theorem kindD8 : kindD Try.prog 8 = some true := by kernel_rfl
theorem sizeD8 : sizeD Try.prog 8 = 4 := by kernel_rfl
theorem zeroV8 : zeroVs Try.prog 8 = some [V.d (D.int .i64 0), V.d (D.int .i64 0), V.d (D.bool false), V.d (D.int .u8 0)] := by kernel_rfl
theorem zc8 : zeroCs Try.prog 8 = some [D.int .i64 0, D.int .i64 0, D.bool false, D.int .u8 0] := by kernel_rfl
theorem zl8 : ((Try.prog.info? 8).bind (·.zero)).elim 0 (fun x => x.cells.size) = (zeroCs Try.prog 8).elim 0 List.length := by kernel_rfl
theorem place8 : placesD Try.prog 8 = some [(0, 1), (1, 1), (2, 1), (3, 1)] := by kernel_rfl
theorem zvo8 : zeroV Try.prog 8 = some (V.d (D.agg [D.int .i64 0, D.int .i64 0, D.bool false, D.int .u8 0])) := by kernel_rfl
theorem leaf8 : leafOffs Try.prog 8 8 = some [(0, 0), (1, 0), (2, 1), (3, 0)] := by kernel_rfl
theorem eqg8 : Try.prog.eqGuardType Try.prog.depth 8 = false := by kernel_rfl
theorem fo8_0 : fieldOff Try.prog 8 0 = some (0, 2) := by kernel_rfl
theorem fo8_1 : fieldOff Try.prog 8 1 = some (1, 3) := by kernel_rfl
theorem fo8_2 : fieldOff Try.prog 8 2 = some (2, 4) := by kernel_rfl
theorem fo8_3 : fieldOff Try.prog 8 3 = some (3, 6) := by kernel_rfl
theorem u9 : Try.prog.underlying 9 = some .string := by kernel_rfl
theorem kindD9 : kindD Try.prog 9 = some false := by kernel_rfl
theorem sizeD9 : sizeD Try.prog 9 = 1 := by kernel_rfl
theorem zeroV9 : zeroVs Try.prog 9 = some [V.d (D.str { data := { toList := [] } })] := by kernel_rfl
theorem zc9 : zeroCs Try.prog 9 = some [D.str { data := { toList := [] } }] := by kernel_rfl
theorem zl9 : ((Try.prog.info? 9).bind (·.zero)).elim 0 (fun x => x.cells.size) = (zeroCs Try.prog 9).elim 0 List.length := by kernel_rfl
theorem zvo9 : zeroV Try.prog 9 = some (V.d (D.str { data := { toList := [] } })) := by kernel_rfl
theorem u10 : Try.prog.underlying 10 = some .string := by kernel_rfl
theorem kindD10 : kindD Try.prog 10 = some false := by kernel_rfl
theorem sizeD10 : sizeD Try.prog 10 = 1 := by kernel_rfl
theorem zeroV10 : zeroVs Try.prog 10 = some [V.d (D.str { data := { toList := [] } })] := by kernel_rfl
theorem zc10 : zeroCs Try.prog 10 = some [D.str { data := { toList := [] } }] := by kernel_rfl
theorem zl10 : ((Try.prog.info? 10).bind (·.zero)).elim 0 (fun x => x.cells.size) = (zeroCs Try.prog 10).elim 0 List.length := by kernel_rfl
theorem zvo10 : zeroV Try.prog 10 = some (V.d (D.str { data := { toList := [] } })) := by kernel_rfl
theorem u11 : Try.prog.underlying 11 = some .string := by kernel_rfl
theorem kindD11 : kindD Try.prog 11 = some false := by kernel_rfl
theorem sizeD11 : sizeD Try.prog 11 = 1 := by kernel_rfl
theorem zeroV11 : zeroVs Try.prog 11 = some [V.d (D.str { data := { toList := [] } })] := by kernel_rfl
theorem zc11 : zeroCs Try.prog 11 = some [D.str { data := { toList := [] } }] := by kernel_rfl
theorem zl11 : ((Try.prog.info? 11).bind (·.zero)).elim 0 (fun x => x.cells.size) = (zeroCs Try.prog 11).elim 0 List.length := by kernel_rfl
theorem zvo11 : zeroV Try.prog 11 = some (V.d (D.str { data := { toList := [] } })) := by kernel_rfl
theorem u12 : Try.prog.underlying 12 = some (.int .u64) := by kernel_rfl
theorem kindD12 : kindD Try.prog 12 = some false := by kernel_rfl
theorem sizeD12 : sizeD Try.prog 12 = 1 := by kernel_rfl
theorem zeroV12 : zeroVs Try.prog 12 = some [V.d (D.int .u64 0)] := by kernel_rfl
theorem zc12 : zeroCs Try.prog 12 = some [D.int .u64 0] := by kernel_rfl
theorem zl12 : ((Try.prog.info? 12).bind (·.zero)).elim 0 (fun x => x.cells.size) = (zeroCs Try.prog 12).elim 0 List.length := by kernel_rfl
theorem zvo12 : zeroV Try.prog 12 = some (V.d (D.int .u64 0)) := by kernel_rfl
theorem kindD13 : kindD Try.prog 13 = some true := by kernel_rfl
theorem sizeD13 : sizeD Try.prog 13 = 2 := by kernel_rfl
theorem zeroV13 : zeroVs Try.prog 13 = some [V.d (D.str { data := { toList := [] } }), V.d (D.int .u64 0)] := by kernel_rfl
theorem zc13 : zeroCs Try.prog 13 = some [D.str { data := { toList := [] } }, D.int .u64 0] := by kernel_rfl
theorem zl13 : ((Try.prog.info? 13).bind (·.zero)).elim 0 (fun x => x.cells.size) = (zeroCs Try.prog 13).elim 0 List.length := by kernel_rfl
theorem place13 : placesD Try.prog 13 = some [(0, 1), (1, 1)] := by kernel_rfl
theorem zvo13 : zeroV Try.prog 13 = some (V.d (D.agg [D.str { data := { toList := [] } }, D.int .u64 0])) := by kernel_rfl
theorem eqg13 : Try.prog.eqGuardType Try.prog.depth 13 = false := by kernel_rfl
theorem fo13_0 : fieldOff Try.prog 13 0 = some (0, 9) := by kernel_rfl
theorem fo13_1 : fieldOff Try.prog 13 1 = some (1, 12) := by kernel_rfl
theorem kindD14 : kindD Try.prog 14 = some true := by kernel_rfl
theorem sizeD14 : sizeD Try.prog 14 = 2 := by kernel_rfl
theorem zeroV14 : zeroVs Try.prog 14 = some [V.d (D.str { data := { toList := [] } }), V.d (D.int .u64 0)] := by kernel_rfl
theorem zc14 : zeroCs Try.prog 14 = some [D.str { data := { toList := [] } }, D.int .u64 0] := by kernel_rfl
theorem zl14 : ((Try.prog.info? 14).bind (·.zero)).elim 0 (fun x => x.cells.size) = (zeroCs Try.prog 14).elim 0 List.length := by kernel_rfl
theorem place14 : placesD Try.prog 14 = some [(0, 1), (1, 1)] := by kernel_rfl
theorem zvo14 : zeroV Try.prog 14 = some (V.d (D.agg [D.str { data := { toList := [] } }, D.int .u64 0])) := by kernel_rfl
theorem eqg14 : Try.prog.eqGuardType Try.prog.depth 14 = false := by kernel_rfl
theorem fo14_0 : fieldOff Try.prog 14 0 = some (0, 9) := by kernel_rfl
theorem fo14_1 : fieldOff Try.prog 14 1 = some (1, 12) := by kernel_rfl
theorem kindD15 : kindD Try.prog 15 = some false := by kernel_rfl
theorem sizeD15 : sizeD Try.prog 15 = 1 := by kernel_rfl
theorem zeroV15 : zeroVs Try.prog 15 = some [V.d (D.con (Value.pointer none))] := by kernel_rfl
theorem zc15 : zeroCs Try.prog 15 = some [D.con (Value.pointer none)] := by kernel_rfl
theorem zl15 : ((Try.prog.info? 15).bind (·.zero)).elim 0 (fun x => x.cells.size) = (zeroCs Try.prog 15).elim 0 List.length := by kernel_rfl
theorem isp15 : isPtr Try.prog 15 = true := by kernel_rfl
theorem zvo15 : zeroV Try.prog 15 = some (V.d (D.con (Value.pointer none))) := by kernel_rfl
theorem kindD16 : kindD Try.prog 16 = some false := by kernel_rfl
theorem sizeD16 : sizeD Try.prog 16 = 1 := by kernel_rfl
theorem zeroV16 : zeroVs Try.prog 16 = some [V.d (D.con (Value.pointer none))] := by kernel_rfl
theorem zc16 : zeroCs Try.prog 16 = some [D.con (Value.pointer none)] := by kernel_rfl
theorem zl16 : ((Try.prog.info? 16).bind (·.zero)).elim 0 (fun x => x.cells.size) = (zeroCs Try.prog 16).elim 0 List.length := by kernel_rfl
theorem isp16 : isPtr Try.prog 16 = true := by kernel_rfl
theorem zvo16 : zeroV Try.prog 16 = some (V.d (D.con (Value.pointer none))) := by kernel_rfl
theorem kindD17 : kindD Try.prog 17 = some false := by kernel_rfl
theorem sizeD17 : sizeD Try.prog 17 = 1 := by kernel_rfl
theorem zeroV17 : zeroVs Try.prog 17 = some [V.d (D.con (Value.pointer none))] := by kernel_rfl
theorem zc17 : zeroCs Try.prog 17 = some [D.con (Value.pointer none)] := by kernel_rfl
theorem zl17 : ((Try.prog.info? 17).bind (·.zero)).elim 0 (fun x => x.cells.size) = (zeroCs Try.prog 17).elim 0 List.length := by kernel_rfl
theorem isp17 : isPtr Try.prog 17 = true := by kernel_rfl
theorem zvo17 : zeroV Try.prog 17 = some (V.d (D.con (Value.pointer none))) := by kernel_rfl
theorem kindD18 : kindD Try.prog 18 = some true := by kernel_rfl
theorem sizeD18 : sizeD Try.prog 18 = 1 := by kernel_rfl
theorem zeroV18 : zeroVs Try.prog 18 = some [V.d (D.con (Value.pointer none))] := by kernel_rfl
theorem zc18 : zeroCs Try.prog 18 = some [D.con (Value.pointer none)] := by kernel_rfl
theorem zl18 : ((Try.prog.info? 18).bind (·.zero)).elim 0 (fun x => x.cells.size) = (zeroCs Try.prog 18).elim 0 List.length := by kernel_rfl
theorem place18 : placesD Try.prog 18 = some [(0, 1)] := by kernel_rfl
theorem zvo18 : zeroV Try.prog 18 = some (V.d (D.agg [D.con (Value.pointer none)])) := by kernel_rfl
theorem eqg18 : Try.prog.eqGuardType Try.prog.depth 18 = false := by kernel_rfl
theorem fo18_0 : fieldOff Try.prog 18 0 = some (0, 17) := by kernel_rfl
theorem kindD19 : kindD Try.prog 19 = some true := by kernel_rfl
theorem sizeD19 : sizeD Try.prog 19 = 1 := by kernel_rfl
theorem zeroV19 : zeroVs Try.prog 19 = some [V.d (D.con (Value.pointer none))] := by kernel_rfl
theorem zc19 : zeroCs Try.prog 19 = some [D.con (Value.pointer none)] := by kernel_rfl
theorem zl19 : ((Try.prog.info? 19).bind (·.zero)).elim 0 (fun x => x.cells.size) = (zeroCs Try.prog 19).elim 0 List.length := by kernel_rfl
theorem place19 : placesD Try.prog 19 = some [(0, 1)] := by kernel_rfl
theorem zvo19 : zeroV Try.prog 19 = some (V.d (D.agg [D.con (Value.pointer none)])) := by kernel_rfl
theorem eqg19 : Try.prog.eqGuardType Try.prog.depth 19 = false := by kernel_rfl
theorem fo19_0 : fieldOff Try.prog 19 0 = some (0, 17) := by kernel_rfl
theorem kindD20 : kindD Try.prog 20 = some false := by kernel_rfl
theorem sizeD20 : sizeD Try.prog 20 = 1 := by kernel_rfl
theorem zeroV20 : zeroVs Try.prog 20 = some [V.d (D.con Value.nilIface)] := by kernel_rfl
theorem zc20 : zeroCs Try.prog 20 = some [D.con Value.nilIface] := by kernel_rfl
theorem zl20 : ((Try.prog.info? 20).bind (·.zero)).elim 0 (fun x => x.cells.size) = (zeroCs Try.prog 20).elim 0 List.length := by kernel_rfl
theorem zvo20 : zeroV Try.prog 20 = some (V.d (D.con Value.nilIface)) := by kernel_rfl
theorem u21 : Try.prog.underlying 21 = some (.int .i32) := by kernel_rfl
theorem kindD21 : kindD Try.prog 21 = some false := by kernel_rfl
theorem sizeD21 : sizeD Try.prog 21 = 1 := by kernel_rfl
theorem zeroV21 : zeroVs Try.prog 21 = some [V.d (D.int .i32 0)] := by kernel_rfl
theorem zc21 : zeroCs Try.prog 21 = some [D.int .i32 0] := by kernel_rfl
theorem zl21 : ((Try.prog.info? 21).bind (·.zero)).elim 0 (fun x => x.cells.size) = (zeroCs Try.prog 21).elim 0 List.length := by kernel_rfl
theorem zvo21 : zeroV Try.prog 21 = some (V.d (D.int .i32 0)) := by kernel_rfl
theorem u22 : Try.prog.underlying 22 = some (.slice 43) := by kernel_rfl
theorem kindD22 : kindD Try.prog 22 = some false := by kernel_rfl
theorem sizeD22 : sizeD Try.prog 22 = 1 := by kernel_rfl
theorem elI22 : elI Try.prog 22 = some (7, 56) := by kernel_rfl
theorem elemT22 : elemTy Try.prog 22 = some 43 := by kernel_rfl
theorem esz22 : elemSz Try.prog 22 = 7 := by kernel_rfl
theorem zeroV22 : zeroVs Try.prog 22 = some [V.nil 7] := by kernel_rfl
theorem zc22 : zeroCs Try.prog 22 = some [D.sl false 7 []] := by kernel_rfl
theorem zl22 : ((Try.prog.info? 22).bind (·.zero)).elim 0 (fun x => x.cells.size) = (zeroCs Try.prog 22).elim 0 List.length := by kernel_rfl
theorem zvo22 : zeroV Try.prog 22 = some (V.nil 7) := by kernel_rfl
theorem u23 : Try.prog.underlying 23 = some (.slice 87) := by kernel_rfl
theorem kindD23 : kindD Try.prog 23 = some false := by kernel_rfl
theorem sizeD23 : sizeD Try.prog 23 = 1 := by kernel_rfl
theorem elI23 : elI Try.prog 23 = some (5, 40) := by kernel_rfl
theorem elemT23 : elemTy Try.prog 23 = some 87 := by kernel_rfl
theorem esz23 : elemSz Try.prog 23 = 5 := by kernel_rfl
theorem zeroV23 : zeroVs Try.prog 23 = some [V.nil 5] := by kernel_rfl
theorem zc23 : zeroCs Try.prog 23 = some [D.sl false 5 []] := by kernel_rfl
theorem zl23 : ((Try.prog.info? 23).bind (·.zero)).elim 0 (fun x => x.cells.size) = (zeroCs Try.prog 23).elim 0 List.length := by kernel_rfl
theorem zvo23 : zeroV Try.prog 23 = some (V.nil 5) := by kernel_rfl
theorem u24 : Try.prog.underlying 24 = some (.slice 91) := by kernel_rfl
theorem kindD24 : kindD Try.prog 24 = some false := by kernel_rfl
theorem sizeD24 : sizeD Try.prog 24 = 1 := by kernel_rfl
theorem elI24 : elI Try.prog 24 = some (7, 72) := by kernel_rfl
theorem elemT24 : elemTy Try.prog 24 = some 91 := by kernel_rfl
theorem esz24 : elemSz Try.prog 24 = 7 := by kernel_rfl
theorem zeroV24 : zeroVs Try.prog 24 = some [V.nil 7] := by kernel_rfl
theorem zc24 : zeroCs Try.prog 24 = some [D.sl false 7 []] := by kernel_rfl
theorem zl24 : ((Try.prog.info? 24).bind (·.zero)).elim 0 (fun x => x.cells.size) = (zeroCs Try.prog 24).elim 0 List.length := by kernel_rfl
theorem zvo24 : zeroV Try.prog 24 = some (V.nil 7) := by kernel_rfl
theorem u25 : Try.prog.underlying 25 = some (.slice 89) := by kernel_rfl
theorem kindD25 : kindD Try.prog 25 = some false := by kernel_rfl
theorem sizeD25 : sizeD Try.prog 25 = 1 := by kernel_rfl
theorem elI25 : elI Try.prog 25 = some (8, 80) := by kernel_rfl
theorem elemT25 : elemTy Try.prog 25 = some 89 := by kernel_rfl
theorem esz25 : elemSz Try.prog 25 = 8 := by kernel_rfl
theorem zeroV25 : zeroVs Try.prog 25 = some [V.nil 8] := by kernel_rfl
theorem zc25 : zeroCs Try.prog 25 = some [D.sl false 8 []] := by kernel_rfl
theorem zl25 : ((Try.prog.info? 25).bind (·.zero)).elim 0 (fun x => x.cells.size) = (zeroCs Try.prog 25).elim 0 List.length := by kernel_rfl
theorem zvo25 : zeroV Try.prog 25 = some (V.nil 8) := by kernel_rfl
theorem u26 : Try.prog.underlying 26 = some (.slice 109) := by kernel_rfl
theorem kindD26 : kindD Try.prog 26 = some false := by kernel_rfl
theorem sizeD26 : sizeD Try.prog 26 = 1 := by kernel_rfl
theorem elI26 : elI Try.prog 26 = some (2, 16) := by kernel_rfl
theorem elemT26 : elemTy Try.prog 26 = some 109 := by kernel_rfl
theorem esz26 : elemSz Try.prog 26 = 2 := by kernel_rfl
theorem zeroV26 : zeroVs Try.prog 26 = some [V.nil 2] := by kernel_rfl
theorem zc26 : zeroCs Try.prog 26 = some [D.sl false 2 []] := by kernel_rfl
theorem zl26 : ((Try.prog.info? 26).bind (·.zero)).elim 0 (fun x => x.cells.size) = (zeroCs Try.prog 26).elim 0 List.length := by kernel_rfl
theorem zvo26 : zeroV Try.prog 26 = some (V.nil 2) := by kernel_rfl
theorem kindD27 : kindD Try.prog 27 = some true := by kernel_rfl
theorem sizeD27 : sizeD Try.prog 27 = 8 := by kernel_rfl
theorem zeroV27 : zeroVs Try.prog 27 = some [V.d (D.int .i64 0), V.d (D.int .i64 0), V.d (D.int .i64 0), V.nil 7, V.nil 5, V.nil 7, V.nil 8, V.nil 2] := by kernel_rfl
theorem zc27 : zeroCs Try.prog 27 = some [D.int .i64 0, D.int .i64 0, D.int .i64 0, D.sl false 7 [], D.sl false 5 [], D.sl false 7 [], D.sl false 8 [], D.sl false 2 []] := by kernel_rfl
theorem zl27 : ((Try.prog.info? 27).bind (·.zero)).elim 0 (fun x => x.cells.size) = (zeroCs Try.prog 27).elim 0 List.length := by kernel_rfl
theorem place27 : placesD Try.prog 27 = some [(0, 1), (1, 1), (2, 1), (3, 1), (4, 1), (5, 1), (6, 1), (7, 1)] := by kernel_rfl
theorem zvo27 : zeroV Try.prog 27 = some (V.d (D.agg [D.int .i64 0, D.int .i64 0, D.int .i64 0, D.sl false 7 [], D.sl false 5 [], D.sl false 7 [], D.sl false 8 [], D.sl false 2 []])) := by kernel_rfl
theorem eqg27 : Try.prog.eqGuardType Try.prog.depth 27 = false := by kernel_rfl
theorem fo27_0 : fieldOff Try.prog 27 0 = some (0, 2) := by kernel_rfl
theorem fo27_1 : fieldOff Try.prog 27 1 = some (1, 2) := by kernel_rfl
theorem fo27_2 : fieldOff Try.prog 27 2 = some (2, 2) := by kernel_rfl
theorem fo27_3 : fieldOff Try.prog 27 3 = some (3, 22) := by kernel_rfl
theorem fo27_4 : fieldOff Try.prog 27 4 = some (4, 23) := by kernel_rfl
theorem fo27_5 : fieldOff Try.prog 27 5 = some (5, 24) := by kernel_rfl
theorem fo27_6 : fieldOff Try.prog 27 6 = some (6, 25) := by kernel_rfl
theorem fo27_7 : fieldOff Try.prog 27 7 = some (7, 26) := by kernel_rfl
theorem kindD28 : kindD Try.prog 28 = some true := by kernel_rfl
theorem sizeD28 : sizeD Try.prog 28 = 8 := by kernel_rfl
theorem zeroV28 : zeroVs Try.prog 28 = some [V.d (D.int .i64 0), V.d (D.int .i64 0), V.d (D.int .i64 0), V.nil 7, V.nil 5, V.nil 7, V.nil 8, V.nil 2] := by kernel_rfl
theorem zc28 : zeroCs Try.prog 28 = some [D.int .i64 0, D.int .i64 0, D.int .i64 0, D.sl false 7 [], D.sl false 5 [], D.sl false 7 [], D.sl false 8 [], D.sl false 2 []] := by kernel_rfl
theorem zl28 : ((Try.prog.info? 28).bind (·.zero)).elim 0 (fun x => x.cells.size) = (zeroCs Try.prog 28).elim 0 List.length := by kernel_rfl
theorem place28 : placesD Try.prog 28 = some [(0, 1), (1, 1), (2, 1), (3, 1), (4, 1), (5, 1), (6, 1), (7, 1)] := by kernel_rfl
theorem zvo28 : zeroV Try.prog 28 = some (V.d (D.agg [D.int .i64 0, D.int .i64 0, D.int .i64 0, D.sl false 7 [], D.sl false 5 [], D.sl false 7 [], D.sl false 8 [], D.sl false 2 []])) := by kernel_rfl
theorem eqg28 : Try.prog.eqGuardType Try.prog.depth 28 = false := by kernel_rfl
theorem fo28_0 : fieldOff Try.prog 28 0 = some (0, 2) := by kernel_rfl
theorem fo28_1 : fieldOff Try.prog 28 1 = some (1, 2) := by kernel_rfl
theorem fo28_2 : fieldOff Try.prog 28 2 = some (2, 2) := by kernel_rfl
theorem fo28_3 : fieldOff Try.prog 28 3 = some (3, 22) := by kernel_rfl
theorem fo28_4 : fieldOff Try.prog 28 4 = some (4, 23) := by kernel_rfl
theorem fo28_5 : fieldOff Try.prog 28 5 = some (5, 24) := by kernel_rfl
theorem fo28_6 : fieldOff Try.prog 28 6 = some (6, 25) := by kernel_rfl
theorem fo28_7 : fieldOff Try.prog 28 7 = some (7, 26) := by kernel_rfl
theorem kindD29 : kindD Try.prog 29 = some false := by kernel_rfl
theorem sizeD29 : sizeD Try.prog 29 = 1 := by kernel_rfl
theorem zeroV29 : zeroVs Try.prog 29 = some [V.d (D.con Value.nilFunc)] := by kernel_rfl
theorem zc29 : zeroCs Try.prog 29 = some [D.con Value.nilFunc] := by kernel_rfl
theorem zl29 : ((Try.prog.info? 29).bind (·.zero)).elim 0 (fun x => x.cells.size) = (zeroCs Try.prog 29).elim 0 List.length := by kernel_rfl
theorem zvo29 : zeroV Try.prog 29 = some (V.d (D.con Value.nilFunc)) := by kernel_rfl
theorem kindD30 : kindD Try.prog 30 = some false := by kernel_rfl
theorem sizeD30 : sizeD Try.prog 30 = 1 := by kernel_rfl
theorem zeroV30 : zeroVs Try.prog 30 = some [V.d (D.con Value.nilFunc)] := by kernel_rfl
theorem zc30 : zeroCs Try.prog 30 = some [D.con Value.nilFunc] := by kernel_rfl
theorem zl30 : ((Try.prog.info? 30).bind (·.zero)).elim 0 (fun x => x.cells.size) = (zeroCs Try.prog 30).elim 0 List.length := by kernel_rfl
theorem zvo30 : zeroV Try.prog 30 = some (V.d (D.con Value.nilFunc)) := by kernel_rfl
theorem u31 : Try.prog.underlying 31 = some (.slice 39) := by kernel_rfl
theorem kindD31 : kindD Try.prog 31 = some false := by kernel_rfl
theorem sizeD31 : sizeD Try.prog 31 = 1 := by kernel_rfl
theorem elI31 : elI Try.prog 31 = some (2, 16) := by kernel_rfl
theorem elemT31 : elemTy Try.prog 31 = some 39 := by kernel_rfl
theorem esz31 : elemSz Try.prog 31 = 2 := by kernel_rfl
theorem zeroV31 : zeroVs Try.prog 31 = some [V.nil 2] := by kernel_rfl
theorem zc31 : zeroCs Try.prog 31 = some [D.sl false 2 []] := by kernel_rfl
theorem zl31 : ((Try.prog.info? 31).bind (·.zero)).elim 0 (fun x => x.cells.size) = (zeroCs Try.prog 31).elim 0 List.length := by kernel_rfl
theorem zvo31 : zeroV Try.prog 31 = some (V.nil 2) := by kernel_rfl
theorem kindD32 : kindD Try.prog 32 = some false := by kernel_rfl
theorem sizeD32 : sizeD Try.prog 32 = 1 := by kernel_rfl
theorem zeroV32 : zeroVs Try.prog 32 = some [V.d (D.con Value.nilFunc)] := by kernel_rfl
theorem zc32 : zeroCs Try.prog 32 = some [D.con Value.nilFunc] := by kernel_rfl
theorem zl32 : ((Try.prog.info? 32).bind (·.zero)).elim 0 (fun x => x.cells.size) = (zeroCs Try.prog 32).elim 0 List.length := by kernel_rfl
theorem zvo32 : zeroV Try.prog 32 = some (V.d (D.con Value.nilFunc)) := by kernel_rfl
theorem kindD33 : kindD Try.prog 33 = some false := by kernel_rfl
theorem sizeD33 : sizeD Try.prog 33 = 1 := by kernel_rfl
theorem zeroV33 : zeroVs Try.prog 33 = some [V.d (D.con Value.nilFunc)] := by kernel_rfl
theorem zc33 : zeroCs Try.prog 33 = some [D.con Value.nilFunc] := by kernel_rfl
theorem zl33 : ((Try.prog.info? 33).bind (·.zero)).elim 0 (fun x => x.cells.size) = (zeroCs Try.prog 33).elim 0 List.length := by kernel_rfl
theorem zvo33 : zeroV Try.prog 33 = some (V.d (D.con Value.nilFunc)) := by kernel_rfl
theorem u34 : Try.prog.underlying 34 = some (.slice 104) := by kernel_rfl
theorem kindD34 : kindD Try.prog 34 = some false := by kernel_rfl
theorem sizeD34 : sizeD Try.prog 34 = 1 := by kernel_rfl
theorem elI34 : elI Try.prog 34 = some (2, 16) := by kernel_rfl
theorem elemT34 : elemTy Try.prog 34 = some 104 := by kernel_rfl
theorem esz34 : elemSz Try.prog 34 = 2 := by kernel_rfl
theorem zeroV34 : zeroVs Try.prog 34 = some [V.nil 2] := by kernel_rfl
theorem zc34 : zeroCs Try.prog 34 = some [D.sl false 2 []] := by kernel_rfl
theorem zl34 : ((Try.prog.info? 34).bind (·.zero)).elim 0 (fun x => x.cells.size) = (zeroCs Try.prog 34).elim 0 List.length := by kernel_rfl
theorem zvo34 : zeroV Try.prog 34 = some (V.nil 2) := by kernel_rfl
theorem kindD35 : kindD Try.prog 35 = some false := by kernel_rfl
theorem sizeD35 : sizeD Try.prog 35 = 1 := by kernel_rfl
theorem zeroV35 : zeroVs Try.prog 35 = some [V.d (D.con Value.nilFunc)] := by kernel_rfl
theorem zc35 : zeroCs Try.prog 35 = some [D.con Value.nilFunc] := by kernel_rfl
theorem zl35 : ((Try.prog.info? 35).bind (·.zero)).elim 0 (fun x => x.cells.size) = (zeroCs Try.prog 35).elim 0 List.length := by kernel_rfl
theorem zvo35 : zeroV Try.prog 35 = some (V.d (D.con Value.nilFunc)) := by kernel_rfl
theorem kindD38 : kindD Try.prog 38 = some true := by kernel_rfl
theorem sizeD38 : sizeD Try.prog 38 = 2 := by kernel_rfl
theorem zeroV38 : zeroVs Try.prog 38 = some [V.d (D.int .i64 0), V.d (D.int .i64 0)] := by kernel_rfl
theorem zc38 : zeroCs Try.prog 38 = some [D.int .i64 0, D.int .i64 0] := by kernel_rfl
theorem zl38 : ((Try.prog.info? 38).bind (·.zero)).elim 0 (fun x => x.cells.size) = (zeroCs Try.prog 38).elim 0 List.length := by kernel_rfl
theorem place38 : placesD Try.prog 38 = some [(0, 1), (1, 1)] := by kernel_rfl
theorem zvo38 : zeroV Try.prog 38 = some (V.d (D.agg [D.int .i64 0, D.int .i64 0])) := by kernel_rfl
theorem leaf38 : leafOffs Try.prog 8 38 = some [(0, 0), (1, 0)] := by kernel_rfl
theorem eqg38 : Try.prog.eqGuardType Try.prog.depth 38 = false := by kernel_rfl
theorem fo38_0 : fieldOff Try.prog 38 0 = some (0, 3) := by kernel_rfl
theorem fo38_1 : fieldOff Try.prog 38 1 = some (1, 3) := by kernel_rfl
theorem kindD39 : kindD Try.prog 39 = some true := by kernel_rfl
theorem sizeD39 : sizeD Try.prog 39 = 2 := by kernel_rfl
theorem zeroV39 : zeroVs Try.prog 39 = some [V.d (D.int .i64 0), V.d (D.int .i64 0)] := by kernel_rfl
theorem zc39 : zeroCs Try.prog 39 = some [D.int .i64 0, D.int .i64 0] := by kernel_rfl
theorem zl39 : ((Try.prog.info? 39).bind (·.zero)).elim 0 (fun x => x.cells.size) = (zeroCs Try.prog 39).elim 0 List.length := by kernel_rfl
theorem place39 : placesD Try.prog 39 = some [(0, 1), (1, 1)] := by kernel_rfl
theorem zvo39 : zeroV Try.prog 39 = some (V.d (D.agg [D.int .i64 0, D.int .i64 0])) := by kernel_rfl
theorem leaf39 : leafOffs Try.prog 8 39 = some [(0, 0), (1, 0)] := by kernel_rfl
theorem eqg39 : Try.prog.eqGuardType Try.prog.depth 39 = false := by kernel_rfl
theorem fo39_0 : fieldOff Try.prog 39 0 = some (0, 3) := by kernel_rfl
theorem fo39_1 : fieldOff Try.prog 39 1 = some (1, 3) := by kernel_rfl
theorem kindD41 : kindD Try.prog 41 = some true := by kernel_rfl
theorem sizeD41 : sizeD Try.prog 41 = 2 := by kernel_rfl
theorem zeroV41 : zeroVs Try.prog 41 = some [V.d (D.int .i64 0), V.d (D.int .i64 0)] := by kernel_rfl
theorem zc41 : zeroCs Try.prog 41 = some [D.int .i64 0, D.int .i64 0] := by kernel_rfl
theorem zl41 : ((Try.prog.info? 41).bind (·.zero)).elim 0 (fun x => x.cells.size) = (zeroCs Try.prog 41).elim 0 List.length := by kernel_rfl
theorem place41 : placesD Try.prog 41 = some [(0, 1), (1, 1)] := by kernel_rfl
theorem zvo41 : zeroV Try.prog 41 = some (V.d (D.agg [D.int .i64 0, D.int .i64 0])) := by kernel_rfl
theorem leaf41 : leafOffs Try.prog 8 41 = some [(0, 0), (1, 0)] := by kernel_rfl
theorem eqg41 : Try.prog.eqGuardType Try.prog.depth 41 = false := by kernel_rfl
theorem fo41_0 : fieldOff Try.prog 41 0 = some (0, 2) := by kernel_rfl
theorem fo41_1 : fieldOff Try.prog 41 1 = some (1, 2) := by kernel_rfl
theorem kindD43 : kindD Try.prog 43 = some true := by kernel_rfl
theorem sizeD43 : sizeD Try.prog 43 = 7 := by kernel_rfl
theorem zeroV43 : zeroVs Try.prog 43 = some [V.d (D.int .i64 0), V.d (D.int .i64 0), V.d (D.int .i64 0), V.d (D.int .i64 0), V.d (D.int .i64 0), V.d (D.int .i64 0), V.d (D.int .i64 0)] := by kernel_rfl
theorem zc43 : zeroCs Try.prog 43 = some [D.int .i64 0, D.int .i64 0, D.int .i64 0, D.int .i64 0, D.int .i64 0, D.int .i64 0, D.int .i64 0] := by kernel_rfl
theorem zl43 : ((Try.prog.info? 43).bind (·.zero)).elim 0 (fun x => x.cells.size) = (zeroCs Try.prog 43).elim 0 List.length := by kernel_rfl
theorem place43 : placesD Try.prog 43 = some [(0, 1), (1, 1), (2, 1), (3, 2), (5, 2)] := by kernel_rfl
theorem zvo43 : zeroV Try.prog 43 = some (V.d (D.agg [D.int .i64 0, D.int .i64 0, D.int .i64 0, D.int .i64 0, D.int .i64 0, D.int .i64 0, D.int .i64 0])) := by kernel_rfl
theorem leaf43 : leafOffs Try.prog 8 43 = some [(0, 0), (1, 0), (2, 0), (3, 0), (4, 0), (5, 0), (6, 0)] := by kernel_rfl
theorem eqg43 : Try.prog.eqGuardType Try.prog.depth 43 = false := by kernel_rfl
theorem fo43_0 : fieldOff Try.prog 43 0 = some (0, 3) := by kernel_rfl
theorem fo43_1 : fieldOff Try.prog 43 1 = some (1, 3) := by kernel_rfl
theorem fo43_2 : fieldOff Try.prog 43 2 = some (2, 2) := by kernel_rfl
theorem fo43_3 : fieldOff Try.prog 43 3 = some (3, 41) := by kernel_rfl
theorem fo43_4 : fieldOff Try.prog 43 4 = some (5, 41) := by kernel_rfl
theorem kindD44 : kindD Try.prog 44 = some false := by kernel_rfl
theorem sizeD44 : sizeD Try.prog 44 = 1 := by kernel_rfl
theorem zeroV44 : zeroVs Try.prog 44 = some [V.d (D.con Value.nilFunc)] := by kernel_rfl
theorem zc44 : zeroCs Try.prog 44 = some [D.con Value.nilFunc] := by kernel_rfl
theorem zl44 : ((Try.prog.info? 44).bind (·.zero)).elim 0 (fun x => x.cells.size) = (zeroCs Try.prog 44).elim 0 List.length := by kernel_rfl
theorem zvo44 : zeroV Try.prog 44 = some (V.d (D.con Value.nilFunc)) := by kernel_rfl
theorem u45 : Try.prog.underlying 45 = some (.int .i64) := by kernel_rfl
theorem kindD45 : kindD Try.prog 45 = some false := by kernel_rfl
theorem sizeD45 : sizeD Try.prog 45 = 1 := by kernel_rfl
theorem zeroV45 : zeroVs Try.prog 45 = some [V.d (D.int .i64 0)] := by kernel_rfl
theorem zc45 : zeroCs Try.prog 45 = some [D.int .i64 0] := by kernel_rfl
theorem zl45 : ((Try.prog.info? 45).bind (·.zero)).elim 0 (fun x => x.cells.size) = (zeroCs Try.prog 45).elim 0 List.length := by kernel_rfl
theorem zvo45 : zeroV Try.prog 45 = some (V.d (D.int .i64 0)) := by kernel_rfl
theorem kindD46 : kindD Try.prog 46 = some false := by kernel_rfl
theorem sizeD46 : sizeD Try.prog 46 = 1 := by kernel_rfl
theorem zeroV46 : zeroVs Try.prog 46 = some [V.un] := by kernel_rfl
theorem zvo46 : zeroV Try.prog 46 = some V.un := by kernel_rfl
theorem u48 : Try.prog.underlying 48 = some (.slice 3) := by kernel_rfl
theorem kindD48 : kindD Try.prog 48 = some false := by kernel_rfl
theorem sizeD48 : sizeD Try.prog 48 = 1 := by kernel_rfl
theorem elI48 : elI Try.prog 48 = some (1, 8) := by kernel_rfl
theorem elemT48 : elemTy Try.prog 48 = some 3 := by kernel_rfl
theorem esz48 : elemSz Try.prog 48 = 1 := by kernel_rfl
theorem zeroV48 : zeroVs Try.prog 48 = some [V.nil 1] := by kernel_rfl
theorem zc48 : zeroCs Try.prog 48 = some [D.sl false 1 []] := by kernel_rfl
theorem zl48 : ((Try.prog.info? 48).bind (·.zero)).elim 0 (fun x => x.cells.size) = (zeroCs Try.prog 48).elim 0 List.length := by kernel_rfl
theorem zvo48 : zeroV Try.prog 48 = some (V.nil 1) := by kernel_rfl
theorem kindD49 : kindD Try.prog 49 = some false := by kernel_rfl
theorem sizeD49 : sizeD Try.prog 49 = 1 := by kernel_rfl
theorem zeroV49 : zeroVs Try.prog 49 = some [V.un] := by kernel_rfl
theorem zvo49 : zeroV Try.prog 49 = some V.un := by kernel_rfl
theorem kindD50 : kindD Try.prog 50 = some false := by kernel_rfl
theorem sizeD50 : sizeD Try.prog 50 = 1 := by kernel_rfl
theorem zeroV50 : zeroVs Try.prog 50 = some [V.d (D.con Value.nilFunc)] := by kernel_rfl
theorem zc50 : zeroCs Try.prog 50 = some [D.con Value.nilFunc] := by kernel_rfl
theorem zl50 : ((Try.prog.info? 50).bind (·.zero)).elim 0 (fun x => x.cells.size) = (zeroCs Try.prog 50).elim 0 List.length := by kernel_rfl
theorem zvo50 : zeroV Try.prog 50 = some (V.d (D.con Value.nilFunc)) := by kernel_rfl
theorem kindD52 : kindD Try.prog 52 = some false := by kernel_rfl
theorem sizeD52 : sizeD Try.prog 52 = 1 := by kernel_rfl
theorem zeroV52 : zeroVs Try.prog 52 = some [V.d (D.con Value.nilFunc)] := by kernel_rfl
theorem zc52 : zeroCs Try.prog 52 = some [D.con Value.nilFunc] := by kernel_rfl
theorem zl52 : ((Try.prog.info? 52).bind (·.zero)).elim 0 (fun x => x.cells.size) = (zeroCs Try.prog 52).elim 0 List.length := by kernel_rfl
theorem zvo52 : zeroV Try.prog 52 = some (V.d (D.con Value.nilFunc)) := by kernel_rfl
theorem u58 : Try.prog.underlying 58 = some (.slice 5) := by kernel_rfl
theorem kindD58 : kindD Try.prog 58 = some false := by kernel_rfl
theorem sizeD58 : sizeD Try.prog 58 = 1 := by kernel_rfl
theorem elI58 : elI Try.prog 58 = some (1, 1) := by kernel_rfl
theorem elemT58 : elemTy Try.prog 58 = some 5 := by kernel_rfl
theorem esz58 : elemSz Try.prog 58 = 1 := by kernel_rfl
theorem zeroV58 : zeroVs Try.prog 58 = some [V.nil 1] := by kernel_rfl
theorem zc58 : zeroCs Try.prog 58 = some [D.sl false 1 []] := by kernel_rfl
theorem zl58 : ((Try.prog.info? 58).bind (·.zero)).elim 0 (fun x => x.cells.size) = (zeroCs Try.prog 58).elim 0 List.length := by kernel_rfl
theorem zvo58 : zeroV Try.prog 58 = some (V.nil 1) := by kernel_rfl
theorem kindD68 : kindD Try.prog 68 = some false := by kernel_rfl
theorem sizeD68 : sizeD Try.prog 68 = 1 := by kernel_rfl
theorem zeroV68 : zeroVs Try.prog 68 = some [V.d (D.con Value.nilFunc)] := by kernel_rfl
theorem zc68 : zeroCs Try.prog 68 = some [D.con Value.nilFunc] := by kernel_rfl
theorem zl68 : ((Try.prog.info? 68).bind (·.zero)).elim 0 (fun x => x.cells.size) = (zeroCs Try.prog 68).elim 0 List.length := by kernel_rfl
theorem zvo68 : zeroV Try.prog 68 = some (V.d (D.con Value.nilFunc)) := by kernel_rfl
theorem u84 : Try.prog.underlying 84 = some (.int .u64) := by kernel_rfl
theorem kindD84 : kindD Try.prog 84 = some false := by kernel_rfl
theorem sizeD84 : sizeD Try.prog 84 = 1 := by kernel_rfl
theorem zeroV84 : zeroVs Try.prog 84 = some [V.d (D.int .u64 0)] := by kernel_rfl
theorem zc84 : zeroCs Try.prog 84 = some [D.int .u64 0] := by kernel_rfl
theorem zl84 : ((Try.prog.info? 84).bind (·.zero)).elim 0 (fun x => x.cells.size) = (zeroCs Try.prog 84).elim 0 List.length := by kernel_rfl
theorem zvo84 : zeroV Try.prog 84 = some (V.d (D.int .u64 0)) := by kernel_rfl
theorem kindD87 : kindD Try.prog 87 = some true := by kernel_rfl
theorem sizeD87 : sizeD Try.prog 87 = 5 := by kernel_rfl
theorem zeroV87 : zeroVs Try.prog 87 = some [V.d (D.int .i64 0), V.d (D.int .i64 0), V.d (D.int .i64 0), V.d (D.int .i64 0), V.d (D.int .i64 0)] := by kernel_rfl
theorem zc87 : zeroCs Try.prog 87 = some [D.int .i64 0, D.int .i64 0, D.int .i64 0, D.int .i64 0, D.int .i64 0] := by kernel_rfl
theorem zl87 : ((Try.prog.info? 87).bind (·.zero)).elim 0 (fun x => x.cells.size) = (zeroCs Try.prog 87).elim 0 List.length := by kernel_rfl
theorem place87 : placesD Try.prog 87 = some [(0, 1), (1, 1), (2, 1), (3, 1), (4, 1)] := by kernel_rfl
theorem zvo87 : zeroV Try.prog 87 = some (V.d (D.agg [D.int .i64 0, D.int .i64 0, D.int .i64 0, D.int .i64 0, D.int .i64 0])) := by kernel_rfl
theorem leaf87 : leafOffs Try.prog 8 87 = some [(0, 0), (1, 0), (2, 0), (3, 0), (4, 0)] := by kernel_rfl
theorem eqg87 : Try.prog.eqGuardType Try.prog.depth 87 = false := by kernel_rfl
theorem fo87_0 : fieldOff Try.prog 87 0 = some (0, 3) := by kernel_rfl
theorem fo87_1 : fieldOff Try.prog 87 1 = some (1, 3) := by kernel_rfl
theorem fo87_2 : fieldOff Try.prog 87 2 = some (2, 2) := by kernel_rfl
theorem fo87_3 : fieldOff Try.prog 87 3 = some (3, 3) := by kernel_rfl
theorem fo87_4 : fieldOff Try.prog 87 4 = some (4, 3) := by kernel_rfl
theorem kindD89 : kindD Try.prog 89 = some true := by kernel_rfl
theorem sizeD89 : sizeD Try.prog 89 = 8 := by kernel_rfl
theorem zeroV89 : zeroVs Try.prog 89 = some [V.d (D.int .i64 0), V.d (D.int .i64 0), V.d (D.int .i64 0), V.nil 1, V.d (D.int .i64 0), V.d (D.int .i64 0), V.d (D.int .i64 0), V.d (D.bool false)] := by kernel_rfl
theorem zc89 : zeroCs Try.prog 89 = some [D.int .i64 0, D.int .i64 0, D.int .i64 0, D.sl false 1 [], D.int .i64 0, D.int .i64 0, D.int .i64 0, D.bool false] := by kernel_rfl
theorem zl89 : ((Try.prog.info? 89).bind (·.zero)).elim 0 (fun x => x.cells.size) = (zeroCs Try.prog 89).elim 0 List.length := by kernel_rfl
theorem place89 : placesD Try.prog 89 = some [(0, 1), (1, 1), (2, 1), (3, 1), (4, 1), (5, 1), (6, 1), (7, 1)] := by kernel_rfl
theorem zvo89 : zeroV Try.prog 89 = some (V.d (D.agg [D.int .i64 0, D.int .i64 0, D.int .i64 0, D.sl false 1 [], D.int .i64 0, D.int .i64 0, D.int .i64 0, D.bool false])) := by kernel_rfl
theorem eqg89 : Try.prog.eqGuardType Try.prog.depth 89 = false := by kernel_rfl
theorem fo89_0 : fieldOff Try.prog 89 0 = some (0, 3) := by kernel_rfl
theorem fo89_1 : fieldOff Try.prog 89 1 = some (1, 3) := by kernel_rfl
theorem fo89_2 : fieldOff Try.prog 89 2 = some (2, 3) := by kernel_rfl
theorem fo89_3 : fieldOff Try.prog 89 3 = some (3, 48) := by kernel_rfl
theorem fo89_4 : fieldOff Try.prog 89 4 = some (4, 2) := by kernel_rfl
theorem fo89_5 : fieldOff Try.prog 89 5 = some (5, 2) := by kernel_rfl
theorem fo89_6 : fieldOff Try.prog 89 6 = some (6, 2) := by kernel_rfl
theorem fo89_7 : fieldOff Try.prog 89 7 = some (7, 4) := by kernel_rfl
theorem kindD91 : kindD Try.prog 91 = some true := by kernel_rfl
theorem sizeD91 : sizeD Try.prog 91 = 7 := by kernel_rfl
theorem zeroV91 : zeroVs Try.prog 91 = some [V.d (D.int .i64 0), V.d (D.int .i64 0), V.d (D.int .i64 0), V.d (D.int .i64 0), V.d (D.int .i64 0), V.nil 1, V.d (D.int .i64 0)] := by kernel_rfl
theorem zc91 : zeroCs Try.prog 91 = some [D.int .i64 0, D.int .i64 0, D.int .i64 0, D.int .i64 0, D.int .i64 0, D.sl false 1 [], D.int .i64 0] := by kernel_rfl
theorem zl91 : ((Try.prog.info? 91).bind (·.zero)).elim 0 (fun x => x.cells.size) = (zeroCs Try.prog 91).elim 0 List.length := by kernel_rfl
theorem place91 : placesD Try.prog 91 = some [(0, 1), (1, 1), (2, 2), (4, 1), (5, 1), (6, 1)] := by kernel_rfl
theorem zvo91 : zeroV Try.prog 91 = some (V.d (D.agg [D.int .i64 0, D.int .i64 0, D.int .i64 0, D.int .i64 0, D.int .i64 0, D.sl false 1 [], D.int .i64 0])) := by kernel_rfl
theorem eqg91 : Try.prog.eqGuardType Try.prog.depth 91 = false := by kernel_rfl
theorem fo91_0 : fieldOff Try.prog 91 0 = some (0, 3) := by kernel_rfl
theorem fo91_1 : fieldOff Try.prog 91 1 = some (1, 3) := by kernel_rfl
theorem fo91_2 : fieldOff Try.prog 91 2 = some (2, 41) := by kernel_rfl
theorem fo91_3 : fieldOff Try.prog 91 3 = some (4, 3) := by kernel_rfl
theorem fo91_4 : fieldOff Try.prog 91 4 = some (5, 48) := by kernel_rfl
theorem fo91_5 : fieldOff Try.prog 91 5 = some (6, 3) := by kernel_rfl
theorem kindD95 : kindD Try.prog 95 = some false := by kernel_rfl
theorem sizeD95 : sizeD Try.prog 95 = 1 := by kernel_rfl
theorem zeroV95 : zeroVs Try.prog 95 = some [V.d (D.con Value.nilFunc)] := by kernel_rfl
theorem zc95 : zeroCs Try.prog 95 = some [D.con Value.nilFunc] := by kernel_rfl
theorem zl95 : ((Try.prog.info? 95).bind (·.zero)).elim 0 (fun x => x.cells.size) = (zeroCs Try.prog 95).elim 0 List.length := by kernel_rfl
theorem zvo95 : zeroV Try.prog 95 = some (V.d (D.con Value.nilFunc)) := by kernel_rfl
theorem kindD104 : kindD Try.prog 104 = some true := by kernel_rfl
theorem sizeD104 : sizeD Try.prog 104 = 2 := by kernel_rfl
theorem zeroV104 : zeroVs Try.prog 104 = some [V.d (D.int .i64 0), V.d (D.int .i64 0)] := by kernel_rfl
theorem zc104 : zeroCs Try.prog 104 = some [D.int .i64 0, D.int .i64 0] := by kernel_rfl
theorem zl104 : ((Try.prog.info? 104).bind (·.zero)).elim 0 (fun x => x.cells.size) = (zeroCs Try.prog 104).elim 0 List.length := by kernel_rfl
theorem place104 : placesD Try.prog 104 = some [(0, 1), (1, 1)] := by kernel_rfl
theorem zvo104 : zeroV Try.prog 104 = some (V.d (D.agg [D.int .i64 0, D.int .i64 0])) := by kernel_rfl
theorem leaf104 : leafOffs Try.prog 8 104 = some [(0, 0), (1, 0)] := by kernel_rfl
theorem eqg104 : Try.prog.eqGuardType Try.prog.depth 104 = false := by kernel_rfl
theorem fo104_0 : fieldOff Try.prog 104 0 = some (0, 3) := by kernel_rfl
theorem fo104_1 : fieldOff Try.prog 104 1 = some (1, 3) := by kernel_rfl
theorem kindD109 : kindD Try.prog 109 = some true := by kernel_rfl
theorem sizeD109 : sizeD Try.prog 109 = 2 := by kernel_rfl
theorem zeroV109 : zeroVs Try.prog 109 = some [V.d (D.int .i64 0), V.d (D.int .i64 0)] := by kernel_rfl
theorem zc109 : zeroCs Try.prog 109 = some [D.int .i64 0, D.int .i64 0] := by kernel_rfl
theorem zl109 : ((Try.prog.info? 109).bind (·.zero)).elim 0 (fun x => x.cells.size) = (zeroCs Try.prog 109).elim 0 List.length := by kernel_rfl
theorem place109 : placesD Try.prog 109 = some [(0, 1), (1, 1)] := by kernel_rfl
theorem zvo109 : zeroV Try.prog 109 = some (V.d (D.agg [D.int .i64 0, D.int .i64 0])) := by kernel_rfl
theorem leaf109 : leafOffs Try.prog 8 109 = some [(0, 0), (1, 0)] := by kernel_rfl
theorem eqg109 : Try.prog.eqGuardType Try.prog.depth 109 = false := by kernel_rfl
theorem fo109_0 : fieldOff Try.prog 109 0 = some (0, 3) := by kernel_rfl
theorem fo109_1 : fieldOff Try.prog 109 1 = some (1, 2) := by kernel_rfl
theorem kindD114 : kindD Try.prog 114 = some false := by kernel_rfl
theorem sizeD114 : sizeD Try.prog 114 = 1 := by kernel_rfl
theorem zeroV114 : zeroVs Try.prog 114 = some [V.un] := by kernel_rfl
theorem zvo114 : zeroV Try.prog 114 = some V.un := by kernel_rfl
theorem kindD120 : kindD Try.prog 120 = some false := by kernel_rfl
theorem sizeD120 : sizeD Try.prog 120 = 1 := by kernel_rfl
theorem zeroV120 : zeroVs Try.prog 120 = some [V.d (D.con Value.nilFunc)] := by kernel_rfl
theorem zc120 : zeroCs Try.prog 120 = some [D.con Value.nilFunc] := by kernel_rfl
theorem zl120 : ((Try.prog.info? 120).bind (·.zero)).elim 0 (fun x => x.cells.size) = (zeroCs Try.prog 120).elim 0 List.length := by kernel_rfl
theorem zvo120 : zeroV Try.prog 120 = some (V.d (D.con Value.nilFunc)) := by kernel_rfl
theorem kindD121 : kindD Try.prog 121 = some false := by kernel_rfl
theorem sizeD121 : sizeD Try.prog 121 = 1 := by kernel_rfl
theorem zeroV121 : zeroVs Try.prog 121 = some [V.d (D.con Value.nilFunc)] := by kernel_rfl
theorem zc121 : zeroCs Try.prog 121 = some [D.con Value.nilFunc] := by kernel_rfl
theorem zl121 : ((Try.prog.info? 121).bind (·.zero)).elim 0 (fun x => x.cells.size) = (zeroCs Try.prog 121).elim 0 List.length := by kernel_rfl
theorem zvo121 : zeroV Try.prog 121 = some (V.d (D.con Value.nilFunc)) := by kernel_rfl
theorem kindD122 : kindD Try.prog 122 = some false := by kernel_rfl
theorem sizeD122 : sizeD Try.prog 122 = 1 := by kernel_rfl
theorem zeroV122 : zeroVs Try.prog 122 = some [V.d (D.con Value.nilFunc)] := by kernel_rfl
theorem zc122 : zeroCs Try.prog 122 = some [D.con Value.nilFunc] := by kernel_rfl
theorem zl122 : ((Try.prog.info? 122).bind (·.zero)).elim 0 (fun x => x.cells.size) = (zeroCs Try.prog 122).elim 0 List.length := by kernel_rfl
theorem zvo122 : zeroV Try.prog 122 = some (V.d (D.con Value.nilFunc)) := by kernel_rfl
theorem kindD164 : kindD Try.prog 164 = some false := by kernel_rfl
theorem sizeD164 : sizeD Try.prog 164 = 1 := by kernel_rfl
theorem zeroV164 : zeroVs Try.prog 164 = some [V.d (D.con Value.nilFunc)] := by kernel_rfl
theorem zc164 : zeroCs Try.prog 164 = some [D.con Value.nilFunc] := by kernel_rfl
theorem zl164 : ((Try.prog.info? 164).bind (·.zero)).elim 0 (fun x => x.cells.size) = (zeroCs Try.prog 164).elim 0 List.length := by kernel_rfl
theorem zvo164 : zeroV Try.prog 164 = some (V.d (D.con Value.nilFunc)) := by kernel_rfl
theorem kindD165 : kindD Try.prog 165 = some false := by kernel_rfl
theorem sizeD165 : sizeD Try.prog 165 = 1 := by kernel_rfl
theorem zeroV165 : zeroVs Try.prog 165 = some [V.d (D.con Value.nilFunc)] := by kernel_rfl
theorem zc165 : zeroCs Try.prog 165 = some [D.con Value.nilFunc] := by kernel_rfl
theorem zl165 : ((Try.prog.info? 165).bind (·.zero)).elim 0 (fun x => x.cells.size) = (zeroCs Try.prog 165).elim 0 List.length := by kernel_rfl
theorem zvo165 : zeroV Try.prog 165 = some (V.d (D.con Value.nilFunc)) := by kernel_rfl
theorem kindD173 : kindD Try.prog 173 = some false := by kernel_rfl
theorem sizeD173 : sizeD Try.prog 173 = 1 := by kernel_rfl
theorem zeroV173 : zeroVs Try.prog 173 = some [V.d (D.con (Value.map none))] := by kernel_rfl
theorem zc173 : zeroCs Try.prog 173 = some [D.con (Value.map none)] := by kernel_rfl
theorem zl173 : ((Try.prog.info? 173).bind (·.zero)).elim 0 (fun x => x.cells.size) = (zeroCs Try.prog 173).elim 0 List.length := by kernel_rfl
theorem mpt173 : mapTy Try.prog 173 = some (3, 3) := by kernel_rfl
theorem zvo173 : zeroV Try.prog 173 = some (V.d (D.con (Value.map none))) := by kernel_rfl
theorem kindD188 : kindD Try.prog 188 = some false := by kernel_rfl
theorem sizeD188 : sizeD Try.prog 188 = 1 := by kernel_rfl
theorem zeroV188 : zeroVs Try.prog 188 = some [V.d (D.con Value.nilFunc)] := by kernel_rfl
theorem zc188 : zeroCs Try.prog 188 = some [D.con Value.nilFunc] := by kernel_rfl
theorem zl188 : ((Try.prog.info? 188).bind (·.zero)).elim 0 (fun x => x.cells.size) = (zeroCs Try.prog 188).elim 0 List.length := by kernel_rfl
theorem zvo188 : zeroV Try.prog 188 = some (V.d (D.con Value.nilFunc)) := by kernel_rfl
theorem kindD192 : kindD Try.prog 192 = some false := by kernel_rfl
theorem sizeD192 : sizeD Try.prog 192 = 1 := by kernel_rfl
theorem zeroV192 : zeroVs Try.prog 192 = some [V.d (D.con Value.nilFunc)] := by kernel_rfl
theorem zc192 : zeroCs Try.prog 192 = some [D.con Value.nilFunc] := by kernel_rfl
theorem zl192 : ((Try.prog.info? 192).bind (·.zero)).elim 0 (fun x => x.cells.size) = (zeroCs Try.prog 192).elim 0 List.length := by kernel_rfl
theorem zvo192 : zeroV Try.prog 192 = some (V.d (D.con Value.nilFunc)) := by kernel_rfl
theorem kindD195 : kindD Try.prog 195 = some false := by kernel_rfl
theorem sizeD195 : sizeD Try.prog 195 = 1 := by kernel_rfl
theorem zeroV195 : zeroVs Try.prog 195 = some [V.d (D.con Value.nilFunc)] := by kernel_rfl
theorem zc195 : zeroCs Try.prog 195 = some [D.con Value.nilFunc] := by kernel_rfl
theorem zl195 : ((Try.prog.info? 195).bind (·.zero)).elim 0 (fun x => x.cells.size) = (zeroCs Try.prog 195).elim 0 List.length := by kernel_rfl
theorem zvo195 : zeroV Try.prog 195 = some (V.d (D.con Value.nilFunc)) := by kernel_rfl
theorem kindD203 : kindD Try.prog 203 = some false := by kernel_rfl
theorem sizeD203 : sizeD Try.prog 203 = 1 := by kernel_rfl
theorem zeroV203 : zeroVs Try.prog 203 = some [V.d (D.con Value.nilFunc)] := by kernel_rfl
theorem zc203 : zeroCs Try.prog 203 = some [D.con Value.nilFunc] := by kernel_rfl
theorem zl203 : ((Try.prog.info? 203).bind (·.zero)).elim 0 (fun x => x.cells.size) = (zeroCs Try.prog 203).elim 0 List.length := by kernel_rfl
theorem zvo203 : zeroV Try.prog 203 = some (V.d (D.con Value.nilFunc)) := by kernel_rfl
theorem kindD204 : kindD Try.prog 204 = some false := by kernel_rfl
theorem sizeD204 : sizeD Try.prog 204 = 1 := by kernel_rfl
theorem zeroV204 : zeroVs Try.prog 204 = some [V.d (D.con Value.nilFunc)] := by kernel_rfl
theorem zc204 : zeroCs Try.prog 204 = some [D.con Value.nilFunc] := by kernel_rfl
theorem zl204 : ((Try.prog.info? 204).bind (·.zero)).elim 0 (fun x => x.cells.size) = (zeroCs Try.prog 204).elim 0 List.length := by kernel_rfl
theorem zvo204 : zeroV Try.prog 204 = some (V.d (D.con Value.nilFunc)) := by kernel_rfl
theorem kindD207 : kindD Try.prog 207 = some true := by kernel_rfl
theorem sizeD207 : sizeD Try.prog 207 = 2 := by kernel_rfl
theorem zeroV207 : zeroVs Try.prog 207 = some [V.d (D.int .i64 0), V.d (D.int .i64 0)] := by kernel_rfl
theorem zc207 : zeroCs Try.prog 207 = some [D.int .i64 0, D.int .i64 0] := by kernel_rfl
theorem zl207 : ((Try.prog.info? 207).bind (·.zero)).elim 0 (fun x => x.cells.size) = (zeroCs Try.prog 207).elim 0 List.length := by kernel_rfl
theorem place207 : placesD Try.prog 207 = some [(0, 1), (1, 1)] := by kernel_rfl
theorem zvo207 : zeroV Try.prog 207 = some (V.d (D.agg [D.int .i64 0, D.int .i64 0])) := by kernel_rfl
theorem leaf207 : leafOffs Try.prog 8 207 = some [(0, 0), (1, 0)] := by kernel_rfl
theorem eqg207 : Try.prog.eqGuardType Try.prog.depth 207 = false := by kernel_rfl
theorem fo207_0 : fieldOff Try.prog 207 0 = some (0, 2) := by kernel_rfl
theorem fo207_1 : fieldOff Try.prog 207 1 = some (1, 2) := by kernel_rfl
theorem kindD221 : kindD Try.prog 221 = some false := by kernel_rfl
theorem sizeD221 : sizeD Try.prog 221 = 1 := by kernel_rfl
theorem zeroV221 : zeroVs Try.prog 221 = some [V.d (D.con Value.nilFunc)] := by kernel_rfl
theorem zc221 : zeroCs Try.prog 221 = some [D.con Value.nilFunc] := by kernel_rfl
theorem zl221 : ((Try.prog.info? 221).bind (·.zero)).elim 0 (fun x => x.cells.size) = (zeroCs Try.prog 221).elim 0 List.length := by kernel_rfl
theorem zvo221 : zeroV Try.prog 221 = some (V.d (D.con Value.nilFunc)) := by kernel_rfl
theorem kindD225 : kindD Try.prog 225 = some false := by kernel_rfl
theorem sizeD225 : sizeD Try.prog 225 = 1 := by kernel_rfl
theorem zeroV225 : zeroVs Try.prog 225 = some [V.d (D.con Value.nilFunc)] := by kernel_rfl
theorem zc225 : zeroCs Try.prog 225 = some [D.con Value.nilFunc] := by kernel_rfl
theorem zl225 : ((Try.prog.info? 225).bind (·.zero)).elim 0 (fun x => x.cells.size) = (zeroCs Try.prog 225).elim 0 List.length := by kernel_rfl
theorem zvo225 : zeroV Try.prog 225 = some (V.d (D.con Value.nilFunc)) := by kernel_rfl
theorem hb0 : hasBody Try.prog 0 = false := by kernel_rfl
theorem hb1 : hasBody Try.prog 1 = false := by kernel_rfl
theorem hb2 : hasBody Try.prog 2 = true := by kernel_rfl
theorem hb5 : hasBody Try.prog 5 = true := by kernel_rfl
theorem hb17 : hasBody Try.prog 17 = true := by kernel_rfl
theorem hb18 : hasBody Try.prog 18 = true := by kernel_rfl
theorem hb19 : hasBody Try.prog 19 = true := by kernel_rfl
theorem hb20 : hasBody Try.prog 20 = true := by kernel_rfl
theorem hb21 : hasBody Try.prog 21 = true := by kernel_rfl
theorem hb22 : hasBody Try.prog 22 = true := by kernel_rfl
theorem hb23 : hasBody Try.prog 23 = true := by kernel_rfl
theorem hb24 : hasBody Try.prog 24 = true := by kernel_rfl
theorem hb25 : hasBody Try.prog 25 = true := by kernel_rfl
theorem hb26 : hasBody Try.prog 26 = true := by kernel_rfl
theorem hb62 : hasBody Try.prog 62 = true := by kernel_rfl
theorem hb63 : hasBody Try.prog 63 = true := by kernel_rfl
theorem hb64 : hasBody Try.prog 64 = true := by kernel_rfl
theorem hb65 : hasBody Try.prog 65 = true := by kernel_rfl
theorem hb66 : hasBody Try.prog 66 = true := by kernel_rfl
theorem hb67 : hasBody Try.prog 67 = true := by kernel_rfl
theorem hb68 : hasBody Try.prog 68 = true := by kernel_rfl
theorem hb69 : hasBody Try.prog 69 = true := by kernel_rfl
theorem hb70 : hasBody Try.prog 70 = true := by kernel_rfl
theorem hb71 : hasBody Try.prog 71 = true := by kernel_rfl
theorem hb72 : hasBody Try.prog 72 = true := by kernel_rfl
theorem hb73 : hasBody Try.prog 73 = true := by kernel_rfl
theorem hb74 : hasBody Try.prog 74 = true := by kernel_rfl
theorem hb75 : hasBody Try.prog 75 = true := by kernel_rfl
theorem hb76 : hasBody Try.prog 76 = true := by kernel_rfl
theorem hb77 : hasBody Try.prog 77 = true := by kernel_rfl
theorem hb111 : hasBody Try.prog 111 = true := by kernel_rfl
theorem hb118 : hasBody Try.prog 118 = true := by kernel_rfl
theorem hb119 : hasBody Try.prog 119 = true := by kernel_rfl
theorem hb120 : hasBody Try.prog 120 = true := by kernel_rfl
theorem hb121 : hasBody Try.prog 121 = true := by kernel_rfl
theorem hb122 : hasBody Try.prog 122 = true := by kernel_rfl
theorem hb123 : hasBody Try.prog 123 = true := by kernel_rfl
theorem hb124 : hasBody Try.prog 124 = true := by kernel_rfl
theorem hb125 : hasBody Try.prog 125 = true := by kernel_rfl
theorem hb126 : hasBody Try.prog 126 = false := by kernel_rfl
theorem hb127 : hasBody Try.prog 127 = true := by kernel_rfl
theorem hb128 : hasBody Try.prog 128 = true := by kernel_rfl
theorem hb129 : hasBody Try.prog 129 = true := by kernel_rfl
theorem hb130 : hasBody Try.prog 130 = true := by kernel_rfl
theorem hb131 : hasBody Try.prog 131 = true := by kernel_rfl
theorem hb132 : hasBody Try.prog 132 = true := by kernel_rfl
theorem hb133 : hasBody Try.prog 133 = true := by kernel_rfl
theorem hb144 : hasBody Try.prog 144 = true := by kernel_rfl
theorem hb145 : hasBody Try.prog 145 = true := by kernel_rfl
theorem hb146 : hasBody Try.prog 146 = true := by kernel_rfl
theorem hb147 : hasBody Try.prog 147 = true := by kernel_rfl
theorem hb149 : hasBody Try.prog 149 = true := by kernel_rfl
theorem hb150 : hasBody Try.prog 150 = true := by kernel_rfl
theorem hb165 : hasBody Try.prog 165 = true := by kernel_rfl
theorem hb166 : hasBody Try.prog 166 = true := by kernel_rfl
attribute [simp] kindD0 sizeD0 zeroV0 zvo0 kindD1 sizeD1 zeroV1 zc1 zl1 zvo1 u2 kindD2 sizeD2 zeroV2 zc2 zl2 zvo2 u3 kindD3 sizeD3 zeroV3 zc3 zl3 zvo3 u4 kindD4 sizeD4 zeroV4 zc4 zl4 zvo4 u5 kindD5 sizeD5 zeroV5 zc5 zl5 zvo5 u6 kindD6 sizeD6 zeroV6 zc6 zl6 zvo6 kindD7 sizeD7 zeroV7 zc7 zl7 place7 zvo7 leaf7 eqg7 fo7_0 fo7_1 fo7_2 fo7_3 kindD8 sizeD8 zeroV8 zc8 zl8 place8 zvo8 leaf8 eqg8 fo8_0 fo8_1 fo8_2 fo8_3 u9 kindD9 sizeD9 zeroV9 zc9 zl9 zvo9 u10 kindD10 sizeD10 zeroV10 zc10 zl10 zvo10 u11 kindD11 sizeD11 zeroV11 zc11 zl11 zvo11 u12 kindD12 sizeD12 zeroV12 zc12 zl12 zvo12 kindD13 sizeD13 zeroV13 zc13 zl13 place13 zvo13 eqg13 fo13_0 fo13_1 kindD14 sizeD14 zeroV14 zc14 zl14 place14 zvo14 eqg14 fo14_0 fo14_1 kindD15 sizeD15 zeroV15 zc15 zl15 isp15 zvo15 kindD16 sizeD16 zeroV16 zc16 zl16 isp16 zvo16 kindD17 sizeD17 zeroV17 zc17 zl17 isp17 zvo17 kindD18 sizeD18 zeroV18 zc18 zl18 place18 zvo18 eqg18 fo18_0 kindD19 sizeD19 zeroV19 zc19 zl19 place19 zvo19 eqg19 fo19_0 kindD20 sizeD20 zeroV20 zc20 zl20 zvo20 u21 kindD21 sizeD21 zeroV21 zc21 zl21 zvo21 u22 kindD22 sizeD22 elI22 elemT22 esz22 zeroV22 zc22 zl22 zvo22 u23 kindD23 sizeD23 elI23 elemT23 esz23 zeroV23 zc23 zl23 zvo23 u24 kindD24 sizeD24 elI24 elemT24 esz24 zeroV24 zc24 zl24 zvo24 u25 kindD25 sizeD25 elI25 elemT25 esz25 zeroV25 zc25 zl25 zvo25 u26 kindD26 sizeD26 elI26 elemT26 esz26 zeroV26 zc26 zl26 zvo26 kindD27 sizeD27 zeroV27 zc27 zl27 place27 zvo27 eqg27 fo27_0 fo27_1 fo27_2 fo27_3 fo27_4 fo27_5 fo27_6 fo27_7 kindD28 sizeD28 zeroV28 zc28 zl28 place28 zvo28 eqg28 fo28_0 fo28_1 fo28_2 fo28_3 fo28_4 fo28_5 fo28_6 fo28_7 kindD29 sizeD29 zeroV29 zc29 zl29 zvo29 kindD30 sizeD30 zeroV30 zc30 zl30 zvo30 u31 kindD31 sizeD31 elI31 elemT31 esz31 zeroV31 zc31 zl31 zvo31 kindD32 sizeD32 zeroV32 zc32 zl32 zvo32 kindD33 sizeD33 zeroV33 zc33 zl33 zvo33 u34 kindD34 sizeD34 elI34 elemT34 esz34 zeroV34 zc34 zl34 zvo34 kindD35 sizeD35 zeroV35 zc35 zl35 zvo35 kindD38 sizeD38 zeroV38 zc38 zl38 place38 zvo38 leaf38 eqg38 fo38_0 fo38_1 kindD39 sizeD39 zeroV39 zc39 zl39 place39 zvo39 leaf39 eqg39 fo39_0 fo39_1 kindD41 sizeD41 zeroV41 zc41 zl41 place41 zvo41 leaf41 eqg41 fo41_0 fo41_1 kindD43 sizeD43 zeroV43 zc43 zl43 place43 zvo43 leaf43 eqg43 fo43_0 fo43_1 fo43_2 fo43_3 fo43_4 kindD44 sizeD44 zeroV44 zc44 zl44 zvo44 u45 kindD45 sizeD45 zeroV45 zc45 zl45 zvo45 kindD46 sizeD46 zeroV46 zvo46 u48 kindD48 sizeD48 elI48 elemT48 esz48 zeroV48 zc48 zl48 zvo48 kindD49 sizeD49 zeroV49 zvo49 kindD50 sizeD50 zeroV50 zc50 zl50 zvo50 kindD52 sizeD52 zeroV52 zc52 zl52 zvo52 u58 kindD58 sizeD58 elI58 elemT58 esz58 zeroV58 zc58 zl58 zvo58 kindD68 sizeD68 zeroV68 zc68 zl68 zvo68 u84 kindD84 sizeD84 zeroV84 zc84 zl84 zvo84 kindD87 sizeD87 zeroV87 zc87 zl87 place87 zvo87 leaf87 eqg87 fo87_0 fo87_1 fo87_2 fo87_3 fo87_4 kindD89 sizeD89 zeroV89 zc89 zl89 place89 zvo89 eqg89 fo89_0 fo89_1 fo89_2 fo89_3 fo89_4 fo89_5 fo89_6 fo89_7 kindD91 sizeD91 zeroV91 zc91 zl91 place91 zvo91 eqg91 fo91_0 fo91_1 fo91_2 fo91_3 fo91_4 fo91_5 kindD95 sizeD95 zeroV95 zc95 zl95 zvo95 kindD104 sizeD104 zeroV104 zc104 zl104 place104 zvo104 leaf104 eqg104 fo104_0 fo104_1 kindD109 sizeD109 zeroV109 zc109 zl109 place109 zvo109 leaf109 eqg109 fo109_0 fo109_1 kindD114 sizeD114 zeroV114 zvo114 kindD120 sizeD120 zeroV120 zc120 zl120 zvo120 kindD121 sizeD121 zeroV121 zc121 zl121 zvo121 kindD122 sizeD122 zeroV122 zc122 zl122 zvo122 kindD164 sizeD164 zeroV164 zc164 zl164 zvo164 kindD165 sizeD165 zeroV165 zc165 zl165 zvo165 kindD173 sizeD173 zeroV173 zc173 zl173 mpt173 zvo173 kindD188 sizeD188 zeroV188 zc188 zl188 zvo188 kindD192 sizeD192 zeroV192 zc192 zl192 zvo192 kindD195 sizeD195 zeroV195 zc195 zl195 zvo195 kindD203 sizeD203 zeroV203 zc203 zl203 zvo203 kindD204 sizeD204 zeroV204 zc204 zl204 zvo204 kindD207 sizeD207 zeroV207 zc207 zl207 place207 zvo207 leaf207 eqg207 fo207_0 fo207_1 kindD221 sizeD221 zeroV221 zc221 zl221 zvo221 kindD225 sizeD225 zeroV225 zc225 zl225 zvo225 hb0 hb1 hb2 hb5 hb17 hb18 hb19 hb20 hb21 hb22 hb23 hb24 hb25 hb26 hb62 hb63 hb64 hb65 hb66 hb67 hb68 hb69 hb70 hb71 hb72 hb73 hb74 hb75 hb76 hb77 hb111 hb118 hb119 hb120 hb121 hb122 hb123 hb124 hb125 hb126 hb127 hb128 hb129 hb130 hb131 hb132 hb133 hb144 hb145 hb146 hb147 hb149 hb150 hb165 hb166
end Go.Idl
end
section
namespace Go.Idl

noncomputable def bodyOf (f : Func) : Code := f.body.getD .skip

/-- a queue -/
structure Q where
  Id : Int
  Par : Int
  Wt : Int
  QC : Int
  QM : Int
  MC : Int
  MM : Int
  deriving DecidableEq
@[simp] def encQ (q : Q) : D := .agg [.int .i64 q.Id, .int .i64 q.Par, .int .i64 q.Wt, .int .i64 q.QC, .int .i64 q.QM, .int .i64 q.MC, .int .i64 q.MM]
abbrev encL (b : Bool) (l : List Q) : D := .sl b 7 (l.map encQ)
abbrev I (n : Int) : D := .int .i64 n
abbrev encI (b : Bool) (l : List Int) : D := .sl b 1 (l.map I)
/-- of the kind -/
abbrev In64 (n : Int) : Prop := -9223372036854775808 ≤ n ∧ n ≤ 9223372036854775807
structure Q.ok (q : Q) : Prop where
  Id : In64 q.Id
  Par : In64 q.Par
  Wt : In64 q.Wt
  QC : In64 q.QC
  QM : In64 q.QM
  MC : In64 q.MC
  MM : In64 q.MM

theorem maxLen_i64 : maxLen ≤ 9223372036854775807 := by decide
@[simp] theorem isucc {i j : Nat} : ((i : Int) + 1 = (j : Int)) = (i + 1 = j) := propext ⟨fun h => by omega, fun h => by omega⟩
@[simp] theorem ione {j : Nat} : ((1 : Int) = (j : Int)) = (1 = j) := propext ⟨fun h => by omega, fun h => by omega⟩
theorem wrap1 {α : Type} {l : List α} {i : Nat} (hl : l.length ≤ maxLen) (h : i < l.length) : IntKind.i64.wrap ((i : Int) + 1) = ((i + 1 : Nat) : Int) := by
  have := maxLen_i64
  rw [wrap_i64 (by omega) (by omega)]; omega
theorem wrapm1 {α : Type} {l : List α} {i : Nat} (hl : l.length ≤ maxLen) (h : i < l.length) (h0 : 0 < i) : IntKind.i64.wrap ((i : Int) - 1) = ((i - 1 : Nat) : Int) := by
  have := maxLen_i64
  rw [wrap_i64 (by omega) (by omega)]; omega

def placeF (id : Int) : List Q → Nat → Int
  | [], _ => -1
  | q :: r, i => if q.Id = id then i else placeF id r (i + 1)
/-- where a queue stands; -1 -/
def place (l : List Q) (id : Int) : Int := placeF id l 0
theorem placeF_range (id : Int) : ∀ (l : List Q) (i : Nat), 0 ≤ placeF id l i → (i : Int) ≤ placeF id l i ∧ placeF id l i < i + l.length
  | [], i, h => by simp [placeF] at h
  | q :: r, i, h => by
    unfold placeF at h ⊢
    split
    · simp; omega
    · rename_i e
      rw [if_neg e] at h
      have := placeF_range id r (i + 1) h
      simp at this ⊢; omega
theorem place_lt {l : List Q} {id : Int} (h : 0 ≤ place l id) : (place l id).toNat < l.length ∧ place l id < l.length := by
  have := placeF_range id l 0 h
  unfold place at *; omega
def q0 : Q := ⟨0, 0, 0, 0, 0, 0, 0⟩
def has (l : List Q) (id : Int) : Bool := decide (0 ≤ place l id)
def find (l : List Q) (id : Int) : Q := if 0 ≤ place l id then l.getD (place l id).toNat q0 else q0
def good (a b : Int) : Bool := decide (0 ≤ a) && decide (a ≤ 1099511627776) && decide (0 ≤ b) && decide (b ≤ 1099511627776)
def fits (a b c d : Int) : Bool := decide (a ≤ c) && decide (b ≤ d)
def formAt (l : List Q) (i : Nat) (q : Q) : Bool := if i = 0 then decide (q.Id = 0) && decide (q.Par = -1) else decide ((l.getD (i - 1) q0).Id < q.Id) && decide (0 ≤ place (l.take i) q.Par)
def formF (l : List Q) : List Q → Nat → Bool
  | [], _ => decide (0 < l.length)
  | q :: r, i => formAt l i q && formF l r (i + 1)
def form (l : List Q) : Bool := formF l l 0
/-- the sum of what the sons must have -/
def sumMin (id : Int) : List Q → Int → Int → Int × Int
  | [], a, b => (a, b)
  | c :: r, a, b => if c.Par = id then sumMin id r (IntKind.i64.wrap (a + c.MC)) (IntKind.i64.wrap (b + c.MM)) else sumMin id r a b
def minsAt (l : List Q) (q : Q) : Bool := fits q.MC q.MM q.QC q.QM && fits (sumMin q.Id l 0 0).1 (sumMin q.Id l 0 0).2 q.MC q.MM
def minsF (l : List Q) : List Q → Bool
  | [] => true
  | q :: r => minsAt l q && minsF l r
def mins (l : List Q) : Bool := minsF l l
def okQ (q : Q) : Bool := decide (1 ≤ q.Wt) && decide (q.Wt ≤ 1048576) && good q.QC q.QM && good q.MC q.MM
def argsF : List Q → Bool
  | [] => true
  | q :: r => okQ q && argsF r
/-- what is wrong with a list -/
def check (l : List Q) : Int := if 64 < l.length then 3 else if form l = false then 4 else if argsF l = false then 1 else if mins l = false then 11 else 0
theorem check_len {l : List Q} (h : check l = 0) : 0 < l.length ∧ l.length ≤ 64 := by
  unfold check at h
  split at h
  · cases h
  · split at h
    · cases h
    · rename_i h1 h2
      cases l with
      | nil => simp [form, formF] at h2
      | cons q r => simp at h1 ⊢; omega

/-- the lists whose numbers rise -/
def Rises (l : List Q) : Prop := l.Pairwise fun a b => a.Id < b.Id
/-- how many numbers are lesser -/
def pos (l : List Q) (id : Int) : Nat := (l.takeWhile fun q => decide (q.Id < id)).length
theorem pos_le (l : List Q) (id : Int) : pos l id ≤ l.length := by
  unfold pos; exact (List.takeWhile_prefix _).length_le
theorem pos_spec : ∀ (l : List Q) (id : Int), Rises l → (∀ i (h : i < l.length), i < pos l id → l[i].Id < id) ∧ (∀ i (h : i < l.length), pos l id ≤ i → id ≤ l[i].Id) ∧ (∀ i, placeF id l i = if ∃ h : pos l id < l.length, l[pos l id].Id = id then ((i + pos l id : Nat) : Int) else -1)
  | [], id, _ => by simp [pos, placeF]
  | q :: r, id, hr => by
    unfold Rises at hr
    rw [List.pairwise_cons] at hr
    obtain ⟨i1, i2, i3⟩ := pos_spec r id hr.2
    by_cases h : q.Id < id
    · have hp : pos (q :: r) id = pos r id + 1 := by simp [pos, h]
      rw [hp]
      refine ⟨fun i hi hlt => ?_, fun i hi hle => ?_, fun i => ?_⟩
      · cases i with
        | zero => exact h
        | succ i => simpa using i1 i (by simpa using hi) (by omega)
      · cases i with
        | zero => omega
        | succ i => simpa using i2 i (by simpa using hi) (by omega)
      · rw [placeF, if_neg (by omega), i3 (i + 1)]
        simp only [List.length_cons, List.getElem_cons_succ]
        by_cases hc : ∃ h : pos r id < r.length, r[pos r id].Id = id
        · rw [if_pos hc, if_pos (by obtain ⟨a, b⟩ := hc; exact ⟨by omega, b⟩)]; omega
        · rw [if_neg hc, if_neg (by rintro ⟨a, b⟩; exact hc ⟨by omega, b⟩)]
    · have hp : pos (q :: r) id = 0 := by simp [pos, h]
      rw [hp]
      refine ⟨fun i hi hlt => by omega, fun i hi _ => ?_, fun i => ?_⟩
      · cases i with
        | zero => simp; omega
        | succ i =>
          have := hr.1 _ (List.getElem_mem (by simpa using hi : i < r.length))
          simp; omega
      · rw [placeF]
        simp only [List.length_cons, List.getElem_cons_zero]
        by_cases e : q.Id = id
        · rw [if_pos e, if_pos ⟨by omega, e⟩]; simp
        · rw [if_neg e, if_neg (by rintro ⟨_, h⟩; exact e h)]
          have hno : ¬ ∃ h : pos r id < r.length, r[pos r id].Id = id := by
            rintro ⟨hlt, he⟩
            have := hr.1 _ (List.getElem_mem hlt)
            omega
          rw [i3, if_neg hno]
theorem place_pos {l : List Q} {id : Int} (hr : Rises l) (h : has l id = true) : place l id = pos l id ∧ pos l id < l.length ∧ ∀ h : pos l id < l.length, l[pos l id].Id = id := by
  have := (pos_spec l id hr).2.2 0
  unfold has place at *
  simp only [decide_eq_true_eq] at h
  rw [this] at h ⊢
  split at h
  · rename_i hc; rw [if_pos hc]; obtain ⟨a, e⟩ := hc; exact ⟨by simp, a, fun _ => e⟩
  · omega
theorem has_iff {l : List Q} {id : Int} (hr : Rises l) : has l id = true ↔ ∃ h : pos l id < l.length, l[pos l id].Id = id := by
  refine ⟨fun h => ⟨(place_pos hr h).2.1, (place_pos hr h).2.2 _⟩, fun h => ?_⟩
  have := (pos_spec l id hr).2.2 0
  unfold has place
  rw [this, if_pos h]; simp
theorem rises_succ {l : List Q} {i : Nat} (hr : Rises (l.take i)) (h : i < l.length) (hlt : i = 0 ∨ ∃ h0 : i - 1 < l.length, l[i - 1].Id < l[i].Id) : Rises (l.take (i + 1)) := by
  unfold Rises at *
  rw [List.take_add_one, List.getElem?_eq_getElem h]
  simp only [Option.toList_some]
  rw [List.pairwise_append]
  refine ⟨hr, List.pairwise_singleton _ _, fun a ha c hc => ?_⟩
  simp at hc; subst hc
  obtain ⟨j, hj, rfl⟩ := List.getElem_of_mem ha
  simp only [List.length_take] at hj
  rcases hlt with rfl | ⟨h0, hlt⟩
  · omega
  · rw [List.getElem_take]
    by_cases e : j = i - 1
    · subst e; exact hlt
    · have := List.pairwise_iff_getElem.1 hr j (i - 1) (by simp; omega) (by simp; omega) (by omega)
      simp only [List.getElem_take] at this
      omega
theorem formF_rises (l : List Q) : ∀ (n i : Nat), n = l.length - i → i ≤ l.length → formF l (l.drop i) i = true → Rises (l.take i) → Rises l
  | 0, i, hn, hi, _, hr => by
    have : i = l.length := by omega
    subst this; rwa [List.take_length] at hr
  | n + 1, i, hn, hi, hf, hr => by
    have h : i < l.length := by omega
    rw [List.drop_eq_getElem_cons h, formF, Bool.and_eq_true] at hf
    refine formF_rises l n (i + 1) (by omega) (by omega) hf.2 (rises_succ hr h ?_)
    have h1 := hf.1
    unfold formAt at h1
    by_cases e : i = 0
    · exact .inl e
    · right
      rw [if_neg e] at h1
      have h2 : i - 1 < l.length := by omega
      refine ⟨h2, ?_⟩
      simp [h2] at h1
      exact h1.1
theorem form_rises {l : List Q} (h : form l = true) : Rises l := formF_rises l l.length 0 (by omega) (Nat.zero_le _) h List.Pairwise.nil
theorem check_rises {l : List Q} (h : check l = 0) : Rises l := by
  refine form_rises ?_
  unfold check at h
  split at h
  · cases h
  · split at h
    · cases h
    · rename_i h1 h2; simpa using h2
/-- what the comparison with a number tells -/
def cmpId (l : List Q) (id : Int) (i : Nat) : Int := if h : i < l.length then (if l[i].Id < id then -1 else if id < l[i].Id then 1 else 0) else 1
theorem cmpId_has {l : List Q} {id : Int} (hr : Rises l) : (decide (pos l id < l.length) && decide (cmpId l id (pos l id) = 0)) = has l id := by
  rw [Bool.eq_iff_iff, has_iff hr]
  simp only [Bool.and_eq_true, decide_eq_true_eq]
  constructor
  · rintro ⟨h, e⟩
    refine ⟨h, ?_⟩
    rw [cmpId, dif_pos h] at e
    split at e
    · cases e
    · split at e
      · cases e
      · omega
  · rintro ⟨h, e⟩
    refine ⟨h, ?_⟩
    rw [cmpId, dif_pos h, if_neg (by omega), if_neg (by omega)]

/-- the sons of a queue, with their places -/
def sonsF (id : Int) : List Q → Nat → List (Nat × Q)
  | [], _ => []
  | q :: r, i => if q.Par = id then (i, q) :: sonsF id r (i + 1) else sonsF id r (i + 1)
def sons (l : List Q) (id : Int) : List (Nat × Q) := sonsF id l 0
def sumF : List (Nat × Q) → Int → Int → Int × Int
  | [], a, b => (a, b)
  | c :: r, a, b => sumF r (IntKind.i64.wrap (a + c.2.MC)) (IntKind.i64.wrap (b + c.2.MM))
theorem sumMin_sons (id : Int) : ∀ (l : List Q) (i : Nat) (a b : Int), sumMin id l a b = sumF (sonsF id l i) a b
  | [], _, _, _ => rfl
  | q :: r, i, a, b => by
    unfold sumMin sonsF
    split
    · rw [sumMin_sons id r (i + 1)]; rfl
    · rw [sumMin_sons id r (i + 1)]
end Go.Idl
end
