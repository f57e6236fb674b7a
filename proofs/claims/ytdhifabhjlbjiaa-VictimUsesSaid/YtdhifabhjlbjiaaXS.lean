/- The sorted keys of a map of numbers, at the seat's program. -/
import Derived.Shelf.SlIterI.Nil
import Derived.Shelf.SortM.Plain
import Derived.Shelf.SortM.SortNone
import Derived.Test.YtdhifabhjlbjiaaQF
import Derived.Test.YtdhifabhjlbjiaaXL
import Derived.Test.YtdhifabhjlbjiaaIdlSk
set_option linter.all false
namespace Go.Idl
open Go.Proofs Go.RowKit Go.Maps Go.Sort Go.Shelf
set_option linter.unusedSimpArgs false
set_option linter.unusedVariables false
set_option maxRecDepth 8000
set_option maxHeartbeats 2000000

theorem laySorts (m : Nat) : AnyZI.SortsIn Try.prog laySorted_ren Fence.wide m :=
  ⟨fun blk off cap ss W hH hblk hsz => callsIn_wide.2 (AnyM.slices_Sort_int laySort blk off cap ss W hH hblk hsz),
   fun p cap W => callsIn_wide.2 (AnyM.slices_Sort_int_none laySort p cap W)⟩
theorem sorted_kit (bm b nn : Nat) (D0 : DataW Unit) (R : Value → Option (DataW Unit × List MemPlace)) (w : World) (hbm : bm < w.heap.size) (hc : w.cell? ⟨bm, 0, none⟩ = some (.map (some b))) (hown : w.ownsMap Try.prog 3 R b nn D0) (hmax : Maps.size D0 ≤ maxLen) (hbytes : Maps.size D0 * 8 ≤ 140737488355328) :
    CallsIn Fence.wide 5 Try.prog 143 #[.func (.func 197) #[] #[.pointer (some ⟨bm, 0, none⟩)]] w fun e w' => ∃ (v : Value) (ss : List Int), e = .returned v ∧ ss.Perm (intKeys D0) ∧
      w'.ownsRow w.heap.size 3 1 v ss.length ((ss.mergeSort (fun x y => decide (x ≤ y))).map encZ) ∧ (v = .slice none 0 0 ↔ ss = []) ∧ Below w.heap.size w w' := by
  have hseq : SeqGives Fence.wide 2 Try.prog 197 #[.pointer (some ⟨bm, 0, none⟩)] encZ (fun ss => ss.Perm (intKeys D0)) (Maps.size D0) w :=
    AnyZI.keys_gives (ρ := layKeys_ren) layKeys Fence.wide _ trivial rfl (by omega) bm b nn D0 w hbm hc hown
  have cS := AnyZI.sorted_in laySorted Fence.wide 5 trivial trivial trivial trivial rfl (by omega) (laySorts _) (enters_of Try.func196 (by kernel_rfl) rfl) 197 #[.pointer (some ⟨bm, 0, none⟩)] trivial (enters_of Try.func197 (by kernel_rfl) rfl) _ _ hmax hbytes _ hseq
  exact cS
theorem sortedKeys_spec {hp : List IObj} {K : V → List IObj → Prop} {id m clock : Nat} {es : List (Nat × D × V)} (h1 : hp[id]? = some (.var [.map m])) (h2 : hp[m]? = some (.map clock es)) (hn : NumMap clock es)
    (hk : K (if es = [] then .nil 1 else .own 1 ((sortedKeys es).map fun n => .int .i64 n)) hp) : CallK Try.prog 143 [.fn (.func 197) [.ptr id 0]] hp K :=
  callK_sortedKeys (et := 3) Try.underlying3 sorted_kit h1 h2 hn hk
end Go.Idl
