/- Closed facts on the seat's types, printed by genfacts.py (a program of mine) off the loaded program; each is checked by the kernel. -/
import Derived.Test.YtdhifabhjlbjiaaProg
import Derived.KernelRfl
import Derived.Test.YtdhifabhjlbjiaaIdlThree
set_option linter.all false
namespace Go.Idl
open Go.Proofs
theorem mixed : Try.prog.follows .mixedOrders = true := by kernel_rfl
theorem u2 : Try.prog.underlying 2 = some (.int .i64) := by kernel_rfl
theorem kindD2 : kindD Try.prog 2 = some false := by kernel_rfl
theorem sizeD2 : sizeD Try.prog 2 = 1 := by kernel_rfl
theorem zeroV2 : zeroVs Try.prog 2 = some [V.d (D.int .i64 0)] := by kernel_rfl
theorem u3 : Try.prog.underlying 3 = some (.int .i64) := by kernel_rfl
theorem kindD3 : kindD Try.prog 3 = some false := by kernel_rfl
theorem sizeD3 : sizeD Try.prog 3 = 1 := by kernel_rfl
theorem zc3 : zeroCs Try.prog 3 = some [D.int .i64 0] := by kernel_rfl
theorem u4 : Try.prog.underlying 4 = some .bool := by kernel_rfl
theorem kindD4 : kindD Try.prog 4 = some false := by kernel_rfl
theorem sizeD4 : sizeD Try.prog 4 = 1 := by kernel_rfl
theorem zeroV4 : zeroVs Try.prog 4 = some [V.d (D.bool false)] := by kernel_rfl
theorem u5 : Try.prog.underlying 5 = some (.int .u8) := by kernel_rfl
theorem u6 : Try.prog.underlying 6 = some (.int .u8) := by kernel_rfl
theorem kindD22 : kindD Try.prog 22 = some false := by kernel_rfl
theorem elI22 : elI Try.prog 22 = some (7, 56) := by kernel_rfl
theorem elemT22 : elemTy Try.prog 22 = some 43 := by kernel_rfl
theorem elI25 : elI Try.prog 25 = some (8, 80) := by kernel_rfl
theorem elemT25 : elemTy Try.prog 25 = some 86 := by kernel_rfl
theorem esz25 : elemSz Try.prog 25 = 8 := by kernel_rfl
theorem kindD41 : kindD Try.prog 41 = some true := by kernel_rfl
theorem sizeD41 : sizeD Try.prog 41 = 2 := by kernel_rfl
theorem zeroV41 : zeroVs Try.prog 41 = some [V.d (D.int .i64 0), V.d (D.int .i64 0)] := by kernel_rfl
theorem zc41 : zeroCs Try.prog 41 = some [D.int .i64 0, D.int .i64 0] := by kernel_rfl
theorem zl41 : ((Try.prog.info? 41).bind (·.zero)).elim 0 (fun x => x.cells.size) = (zeroCs Try.prog 41).elim 0 List.length := by kernel_rfl
theorem place41 : placesD Try.prog 41 = some [(0, 1), (1, 1)] := by kernel_rfl
theorem zvo41 : zeroV Try.prog 41 = some (V.d (D.agg [D.int .i64 0, D.int .i64 0])) := by kernel_rfl
theorem fo41_0 : fieldOff Try.prog 41 0 = some (0, 2) := by kernel_rfl
theorem fo41_1 : fieldOff Try.prog 41 1 = some (1, 2) := by kernel_rfl
theorem kindD43 : kindD Try.prog 43 = some true := by kernel_rfl
theorem sizeD43 : sizeD Try.prog 43 = 7 := by kernel_rfl
theorem zeroV43 : zeroVs Try.prog 43 = some [V.d (D.int .i64 0), V.d (D.int .i64 0), V.d (D.int .i64 0), V.d (D.int .i64 0), V.d (D.int .i64 0), V.d (D.int .i64 0), V.d (D.int .i64 0)] := by kernel_rfl
theorem zc43 : zeroCs Try.prog 43 = some [D.int .i64 0, D.int .i64 0, D.int .i64 0, D.int .i64 0, D.int .i64 0, D.int .i64 0, D.int .i64 0] := by kernel_rfl
theorem zl43 : ((Try.prog.info? 43).bind (·.zero)).elim 0 (fun x => x.cells.size) = (zeroCs Try.prog 43).elim 0 List.length := by kernel_rfl
theorem place43 : placesD Try.prog 43 = some [(0, 1), (1, 1), (2, 1), (3, 2), (5, 2)] := by kernel_rfl
theorem fo43_0 : fieldOff Try.prog 43 0 = some (0, 3) := by kernel_rfl
theorem fo43_1 : fieldOff Try.prog 43 1 = some (1, 3) := by kernel_rfl
theorem fo43_2 : fieldOff Try.prog 43 2 = some (2, 2) := by kernel_rfl
theorem fo43_3 : fieldOff Try.prog 43 3 = some (3, 41) := by kernel_rfl
theorem fo43_4 : fieldOff Try.prog 43 4 = some (5, 41) := by kernel_rfl
theorem kindD48 : kindD Try.prog 48 = some false := by kernel_rfl
theorem elI48 : elI Try.prog 48 = some (1, 8) := by kernel_rfl
theorem elemT48 : elemTy Try.prog 48 = some 3 := by kernel_rfl
theorem esz48 : elemSz Try.prog 48 = 1 := by kernel_rfl
theorem elI60 : elI Try.prog 60 = some (3, 24) := by kernel_rfl
theorem elemT60 : elemTy Try.prog 60 = some 69 := by kernel_rfl
theorem esz60 : elemSz Try.prog 60 = 3 := by kernel_rfl
theorem kindD65 : kindD Try.prog 65 = some false := by kernel_rfl
theorem sizeD65 : sizeD Try.prog 65 = 1 := by kernel_rfl
theorem elI65 : elI Try.prog 65 = some (2, 16) := by kernel_rfl
theorem elemT65 : elemTy Try.prog 65 = some 41 := by kernel_rfl
theorem esz65 : elemSz Try.prog 65 = 2 := by kernel_rfl
theorem zeroV65 : zeroVs Try.prog 65 = some [V.nil 2] := by kernel_rfl
theorem kindD69 : kindD Try.prog 69 = some true := by kernel_rfl
theorem sizeD69 : sizeD Try.prog 69 = 3 := by kernel_rfl
theorem zeroV69 : zeroVs Try.prog 69 = some [V.d (D.int .i64 0), V.d (D.int .i64 0), V.d (D.int .i64 0)] := by kernel_rfl
theorem zc69 : zeroCs Try.prog 69 = some [D.int .i64 0, D.int .i64 0, D.int .i64 0] := by kernel_rfl
theorem zl69 : ((Try.prog.info? 69).bind (·.zero)).elim 0 (fun x => x.cells.size) = (zeroCs Try.prog 69).elim 0 List.length := by kernel_rfl
theorem place69 : placesD Try.prog 69 = some [(0, 1), (1, 2)] := by kernel_rfl
theorem fo69_0 : fieldOff Try.prog 69 0 = some (0, 3) := by kernel_rfl
theorem fo69_1 : fieldOff Try.prog 69 1 = some (1, 41) := by kernel_rfl
theorem kindD86 : kindD Try.prog 86 = some true := by kernel_rfl
theorem sizeD86 : sizeD Try.prog 86 = 8 := by kernel_rfl
theorem zeroV86 : zeroVs Try.prog 86 = some [V.d (D.int .i64 0), V.d (D.int .i64 0), V.d (D.int .i64 0), V.nil 1, V.d (D.int .i64 0), V.d (D.int .i64 0), V.d (D.int .i64 0), V.d (D.bool false)] := by kernel_rfl
theorem zc86 : zeroCs Try.prog 86 = some [D.int .i64 0, D.int .i64 0, D.int .i64 0, D.sl false 1 [], D.int .i64 0, D.int .i64 0, D.int .i64 0, D.bool false] := by kernel_rfl
theorem zl86 : ((Try.prog.info? 86).bind (·.zero)).elim 0 (fun x => x.cells.size) = (zeroCs Try.prog 86).elim 0 List.length := by kernel_rfl
theorem place86 : placesD Try.prog 86 = some [(0, 1), (1, 1), (2, 1), (3, 1), (4, 1), (5, 1), (6, 1), (7, 1)] := by kernel_rfl
theorem fo86_0 : fieldOff Try.prog 86 0 = some (0, 3) := by kernel_rfl
theorem fo86_1 : fieldOff Try.prog 86 1 = some (1, 3) := by kernel_rfl
theorem fo86_3 : fieldOff Try.prog 86 3 = some (3, 48) := by kernel_rfl
theorem fo86_4 : fieldOff Try.prog 86 4 = some (4, 2) := by kernel_rfl
theorem fo86_7 : fieldOff Try.prog 86 7 = some (7, 4) := by kernel_rfl
theorem mpt143 : mapTy Try.prog 143 = some (3, 41) := by kernel_rfl
theorem kindD154 : kindD Try.prog 154 = some true := by kernel_rfl
theorem sizeD154 : sizeD Try.prog 154 = 2 := by kernel_rfl
theorem zeroV154 : zeroVs Try.prog 154 = some [V.d (D.int .i64 0), V.d (D.int .i64 0)] := by kernel_rfl
theorem zc154 : zeroCs Try.prog 154 = some [D.int .i64 0, D.int .i64 0] := by kernel_rfl
theorem zl154 : ((Try.prog.info? 154).bind (·.zero)).elim 0 (fun x => x.cells.size) = (zeroCs Try.prog 154).elim 0 List.length := by kernel_rfl
theorem place154 : placesD Try.prog 154 = some [(0, 1), (1, 1)] := by kernel_rfl
theorem fo154_0 : fieldOff Try.prog 154 0 = some (0, 2) := by kernel_rfl
theorem fo154_1 : fieldOff Try.prog 154 1 = some (1, 2) := by kernel_rfl
theorem kindD163 : kindD Try.prog 163 = some false := by kernel_rfl
theorem kindD198 : kindD Try.prog 198 = some true := by kernel_rfl
theorem sizeD198 : sizeD Try.prog 198 = 3 := by kernel_rfl
theorem zeroV198 : zeroVs Try.prog 198 = some [V.d (D.int .u64 0), V.d (D.int .u64 0), V.d (D.bool false)] := by kernel_rfl
theorem zc198 : zeroCs Try.prog 198 = some [D.int .u64 0, D.int .u64 0, D.bool false] := by kernel_rfl
theorem zl198 : ((Try.prog.info? 198).bind (·.zero)).elim 0 (fun x => x.cells.size) = (zeroCs Try.prog 198).elim 0 List.length := by kernel_rfl
theorem place198 : placesD Try.prog 198 = some [(0, 1), (1, 1), (2, 1)] := by kernel_rfl
theorem fo198_0 : fieldOff Try.prog 198 0 = some (0, 163) := by kernel_rfl
theorem fo198_1 : fieldOff Try.prog 198 1 = some (1, 163) := by kernel_rfl
theorem fo198_2 : fieldOff Try.prog 198 2 = some (2, 4) := by kernel_rfl
theorem hb0 : hasBody Try.prog 0 = false := by kernel_rfl
theorem hb1 : hasBody Try.prog 1 = false := by kernel_rfl
theorem hb2 : hasBody Try.prog 2 = true := by kernel_rfl
theorem hb8 : hasBody Try.prog 8 = true := by kernel_rfl
theorem hb43 : hasBody Try.prog 43 = true := by kernel_rfl
theorem hb52 : hasBody Try.prog 52 = true := by kernel_rfl
theorem hb58 : hasBody Try.prog 58 = true := by kernel_rfl
theorem hb63 : hasBody Try.prog 63 = true := by kernel_rfl
theorem hb66 : hasBody Try.prog 66 = true := by kernel_rfl
theorem hb67 : hasBody Try.prog 67 = true := by kernel_rfl
theorem hb70 : hasBody Try.prog 70 = true := by kernel_rfl
theorem hb76 : hasBody Try.prog 76 = true := by kernel_rfl
theorem hb78 : hasBody Try.prog 78 = true := by kernel_rfl
theorem hb102 : hasBody Try.prog 102 = true := by kernel_rfl
theorem hb113 : hasBody Try.prog 113 = true := by kernel_rfl
theorem hb114 : hasBody Try.prog 114 = true := by kernel_rfl
theorem hb117 : hasBody Try.prog 117 = true := by kernel_rfl
theorem hb118 : hasBody Try.prog 118 = true := by kernel_rfl
theorem hb119 : hasBody Try.prog 119 = true := by kernel_rfl
theorem hb120 : hasBody Try.prog 120 = true := by kernel_rfl
theorem hb121 : hasBody Try.prog 121 = true := by kernel_rfl
theorem hb126 : hasBody Try.prog 126 = true := by kernel_rfl
theorem hb127 : hasBody Try.prog 127 = true := by kernel_rfl
theorem hb135 : hasBody Try.prog 135 = true := by kernel_rfl
theorem hb136 : hasBody Try.prog 136 = true := by kernel_rfl
theorem hb141 : hasBody Try.prog 141 = true := by kernel_rfl
theorem hb142 : hasBody Try.prog 142 = true := by kernel_rfl
theorem hb143 : hasBody Try.prog 143 = true := by kernel_rfl
theorem hb144 : hasBody Try.prog 144 = true := by kernel_rfl
theorem hb146 : hasBody Try.prog 146 = true := by kernel_rfl
theorem hb147 : hasBody Try.prog 147 = true := by kernel_rfl
theorem hb148 : hasBody Try.prog 148 = true := by kernel_rfl
theorem hb149 : hasBody Try.prog 149 = true := by kernel_rfl
theorem hb150 : hasBody Try.prog 150 = true := by kernel_rfl
theorem hb155 : hasBody Try.prog 155 = true := by kernel_rfl
theorem hb156 : hasBody Try.prog 156 = true := by kernel_rfl
theorem hb181 : hasBody Try.prog 181 = true := by kernel_rfl
theorem hb182 : hasBody Try.prog 182 = true := by kernel_rfl
theorem hb187 : hasBody Try.prog 187 = true := by kernel_rfl
theorem hb188 : hasBody Try.prog 188 = true := by kernel_rfl
theorem hb189 : hasBody Try.prog 189 = true := by kernel_rfl
theorem hb192 : hasBody Try.prog 192 = true := by kernel_rfl
theorem hb193 : hasBody Try.prog 193 = true := by kernel_rfl
theorem hb194 : hasBody Try.prog 194 = true := by kernel_rfl
theorem hb195 : hasBody Try.prog 195 = true := by kernel_rfl
theorem hb198 : hasBody Try.prog 198 = true := by kernel_rfl
theorem hb199 : hasBody Try.prog 199 = true := by kernel_rfl
theorem hb202 : hasBody Try.prog 202 = true := by kernel_rfl
theorem hb207 : hasBody Try.prog 207 = true := by kernel_rfl
theorem hb208 : hasBody Try.prog 208 = true := by kernel_rfl
theorem hb215 : hasBody Try.prog 215 = true := by kernel_rfl
attribute [simp] u2 kindD2 sizeD2 zeroV2 u3 kindD3 sizeD3 zc3 u4 kindD4 sizeD4 zeroV4 u5 u6 kindD22 elI22 elemT22 elI25 elemT25 esz25 kindD41 sizeD41 zeroV41 zc41 zl41 place41 zvo41 fo41_0 fo41_1 kindD43 sizeD43 zeroV43 zc43 zl43 place43 fo43_0 fo43_1 fo43_2 fo43_3 fo43_4 kindD48 elI48 elemT48 esz48 elI60 elemT60 esz60 kindD65 sizeD65 elI65 elemT65 esz65 zeroV65 kindD69 sizeD69 zeroV69 zc69 zl69 place69 fo69_0 fo69_1 kindD86 sizeD86 zeroV86 zc86 zl86 place86 fo86_0 fo86_1 fo86_3 fo86_4 fo86_7 mpt143 kindD154 sizeD154 zeroV154 zc154 zl154 place154 fo154_0 fo154_1 kindD163 kindD198 sizeD198 zeroV198 zc198 zl198 place198 fo198_0 fo198_1 fo198_2 hb0 hb1 hb2 hb8 hb43 hb52 hb58 hb63 hb66 hb67 hb70 hb76 hb78 hb102 hb113 hb114 hb117 hb118 hb119 hb120 hb121 hb126 hb127 hb135 hb136 hb141 hb142 hb143 hb144 hb146 hb147 hb148 hb149 hb150 hb155 hb156 hb181 hb182 hb187 hb188 hb189 hb192 hb193 hb194 hb195 hb198 hb199 hb202 hb207 hb208 hb215
end Go.Idl
