/- Leases as plain data: what a leaf lacks, told by a lease more. No program here. -/
import Derived.Test.YtdhifabhjlbjiaaMVall
import Derived.Test.YtdhifabhjlbjiaaMD3
set_option linter.all false
namespace Go.Idl
set_option linter.unusedSimpArgs false
set_option linter.unusedVariables false

def addC (us : List U) (q c : Int) : List U := us.map fun v => if v.q = q then { v with c := v.c + c } else v
theorem sum_one {q v : Int} : ∀ (us : List U), (us.map (·.q)).Nodup → q ∈ us.map (·.q) → sumI (fun u : U => if u.q = q then v else 0) us = v
  | [], _, h => by cases h
  | a :: r, hn, hm => by
    rw [List.map_cons, List.nodup_cons] at hn
    rw [sumI_cons]
    by_cases e : a.q = q
    · subst e
      rw [if_pos rfl, sumI_zero fun u hu => by rw [if_neg]; intro e; exact hn.1 (List.mem_map.2 ⟨u, hu, e⟩)]
      simp
    · rw [if_neg e, sum_one r hn.2 (by rcases List.mem_cons.1 hm with h | h; exact absurd h.symm e; exact h)]
      simp
theorem tot_addC {l : List Q} {us : List U} {q c : Int} (hn : (us.map (·.q)).Nodup) (hm : q ∈ us.map (·.q)) (id : Int) : tot l (addC us q c) id = ((tot l us id).1 + (if id ∈ path l q then c else 0), (tot l us id).2) := by
  have e1 : sumI (fun u : U => if id ∈ path l u.q then u.c else 0) (addC us q c) = sumI (fun u : U => if id ∈ path l u.q then u.c else 0) us + (if id ∈ path l q then c else 0) := by
    rw [← sum_one (v := if id ∈ path l q then c else 0) us hn hm, ← sumI_add]
    unfold addC sumI
    rw [List.map_map]
    congr 1
    refine List.map_congr_left fun u _ => ?_
    simp only [Function.comp]
    by_cases e : u.q = q
    · subst e; simp; split <;> simp
    · simp [e]
  have e2 : sumI (fun u : U => if id ∈ path l u.q then u.m else 0) (addC us q c) = sumI (fun u : U => if id ∈ path l u.q then u.m else 0) us := by
    unfold addC sumI
    rw [List.map_map]
    congr 1
    refine List.map_congr_left fun u _ => ?_
    simp only [Function.comp]
    by_cases e : u.q = q
    · subst e; simp
    · simp [e]
  unfold tot
  rw [totF_sum2, totF_sum2, e1, e2]
  ext <;> simp
/-- the lease that asks for a need's memory -/
def askL (u : U) : Le := ⟨0, u.q, 0, [], u.m, 0, 0, false⟩
theorem ask_ok {u : U} (h : good u.c u.m = true) : okLe (askL u) = true := by
  have := good_iff.1 h
  exact okLe_iff.2 ⟨by simp [askL], by simp [askL]; omega, by simp [askL]; omega⟩
theorem uses_ids (ls : List Le) : (usesL ls).map (·.q) = idsL ls := by
  unfold usesL; rw [List.map_map]; simp [Function.comp_def]
theorem ids_nodup {ls : List Le} (h : ∀ x ∈ ls, okLe x = true) : ((usesL ls).map (·.q)).Nodup := by
  rw [uses_ids]; exact (idsL_sorted h).imp fun h e => by omega
theorem guard_plain {l : List Q} {ls : List Le} {u : U} (h : vsumsE l ls = 0) (hg : good u.c u.m = true) (hh : has l u.q = true) {j : Nat} (hj : j < l.length) (he : l[j].Id = u.q) :
    (sumsL l (addC (usesL (ls ++ [askL u])) u.q u.c)).getD j (0, 0) = (((sumsL l (usesL ls)).getD j (0, 0)).1 + u.c, ((sumsL l (usesL ls)).getD j (0, 0)).2 + u.m) := by
  obtain ⟨hc, hu, hs⟩ := vsums_zero.1 h
  obtain ⟨o1, o2⟩ := ok_of hu
  have o1' : ∀ x ∈ ls ++ [askL u], okLe x = true := fun x hx => by
    rcases List.mem_append.1 hx with hx | hx
    · exact o1 x hx
    · rw [List.mem_singleton] at hx; subst hx; exact ask_ok hg
  have hself : u.q ∈ path l u.q := path_self (check_form hc) hh
  have hm : u.q ∈ (usesL (ls ++ [askL u])).map (·.q) := by
    rw [uses_ids, idsL_mem o1']
    exact ⟨askL u, by simp, rfl⟩
  have e1 : ∀ us, (sumsL l us).getD j (0, 0) = tot l us u.q := fun us => by simp [sumsL, hj, he]
  rw [e1, e1, tot_addC (ids_nodup o1') hm, tot_uses o1', tot_uses o1, if_pos hself, sumI_snoc, sumI_snoc, if_pos (show u.q ∈ path l (askL u).q from hself), if_pos (show u.q ∈ path l (askL u).q from hself)]
  simp [askL]
end Go.Idl
