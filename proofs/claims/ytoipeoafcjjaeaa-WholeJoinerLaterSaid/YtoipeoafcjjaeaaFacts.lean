/- The seat's program and its machine: the closed facts. -/
import Derived.Test.YtoipeoafcjjaeaaRows
import Derived.KernelRfl
import Derived.Test.YtoipeoafcjjaeaaCode
import Derived.Test.YtoipeoafcjjaeaaDamD
namespace Go.Dam.S
open Go Go.Dam Go.Proofs
theorem good : Good Try.prog := good_of (by kernel_rfl)
theorem types_ok : types = (List.range 293).map (teOf Try.prog) := by kernel_rfl
theorem tbl_ok : tbl.map (fun x => compileFn Try.prog x.1) = tbl.map (fun x => some x.2) := by kernel_rfl
theorem t0_ok : TblOK Try.prog T0 := ⟨te_of types_ok, fun _ _ h => fn_of tbl_ok h, fun _ _ _ h => by cases h⟩
theorem wakes_run : (exec T0 5000 [.code f11.body] (envOf []) ⟨.nil, 0⟩).map (fun x => resOf x.1 x.2 f11.results) = some (some [.bool true]) := by kernel_rfl
theorem t_ok : TblOK Try.prog T := by
  refine ⟨te_of types_ok, fun _ _ h => fn_of tbl_ok h, fun f args vs h => ?_⟩
  unfold T extT at h
  simp only [cond_eq_ite] at h
  split at h <;> try (cases h; done)
  rename_i hc
  simp only [Bool.and_eq_true, beq_iff_eq, List.isEmpty_iff] at hc
  obtain ⟨rfl, rfl⟩ := hc
  simp only [Option.some.injEq] at h
  subst h
  exact ext_of_run good t0_ok (F := f11) rfl wakes_run
end Go.Dam.S
