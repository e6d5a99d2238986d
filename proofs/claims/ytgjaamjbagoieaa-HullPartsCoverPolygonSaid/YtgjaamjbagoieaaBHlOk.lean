import Derived.Test.YtgjaamjbagoieaaBHlX
import Derived.Test.YtgjaamjbagoieaaBHlCmp
import Derived.Test.YtgjaamjbagoieaaBAmD
set_option linter.unusedVariables false
set_option linter.unusedSimpArgs false
set_option linter.unnecessarySimpa false
/-
  HULL: the library's functions that are not walked, by their contracts.
-/
namespace Go.Hl
open Go Go.Proofs Go.RowKit Go.Lib Go.Shelf Go.Sort Go.Am

def cf35 (x y : Int × Int) : Int := if Lib.compareInt x.1 y.1 ≠ 0 then Lib.compareInt x.1 y.1 else Lib.compareInt x.2 y.2
theorem lt35 (x y : Int × Int) : ltOf cf35 x y = (decide (x.1 < y.1) || (decide (x.1 = y.1) && decide (x.2 < y.2))) := by
  unfold ltOf cf35 Lib.compareInt
  by_cases h1 : x.1 < y.1
  · simp [h1]
  · by_cases h2 : x.1 > y.1
    · have : x.1 ≠ y.1 := by omega
      simp [h1, h2, this]
    · have : x.1 = y.1 := by omega
      by_cases h3 : x.2 < y.2
      · simp [this, h3]
      · by_cases h4 : x.2 > y.2 <;> simp [this, h3, h4]
theorem swo35 : SWO (ltOf cf35) where
  irrefl x := by rw [lt35]; simp
  trans x y z h1 h2 := by rw [lt35] at *; simp at *; omega
  ntrans x y z h1 h2 := by rw [lt35] at *; simp at *; omega
theorem total35 (x y : Int × Int) (h1 : ltOf cf35 x y = false) (h2 : ltOf cf35 y x = false) : x = y := by
  rw [lt35] at h1 h2; simp at h1 h2; exact Prod.ext (by omega) (by omega)
theorem sort35 (l : List (Int × Int)) : Hu.sortPts l = l.mergeSort fun x y => !(ltOf cf35) y x := by
  unfold Hu.sortPts
  congr 1
  funext x y
  rw [lt35]
  unfold Hu.ptLe
  rw [Bool.eq_iff_iff]
  simp
  omega
theorem lays35 (blk off size : Nat) (w : World) : CmpLays Try.prog 29 #[] encP 2 cf35 blk off size w := fun _ _ _ _ x y => closure29 x y _

theorem prog_ok : ProgOk X0 := {
  name := by
    have h : (Try.prog.funcs.toList.all fun f => !(f.name == "runtime.NumGoroutine")) = true := by kernel_rfl
    intro g fd hg
    rw [List.all_eq_true] at h
    have := h fd (by
      have h2 : Try.prog.funcs[g]? = some fd := hg
      rw [← Array.getElem?_toList] at h2
      exact List.mem_of_getElem? h2)
    simpa using this
  mixed := by kernel_rfl }
theorem spec_ok : SpecOk X0 := fun g t f args x h => by cases h
theorem specH_ok : SpecHOk X0 := by
  intro g f R args h k r hs hr
  change specHTab g = some f at hs
  unfold specHTab at hs
  split at hs
  · rename_i hg; subst hg
    cases hs
    exact clone_ok (X := X0) (ρ := Try.laysE41_ren) Try.laysE41 (e := PtT) Try.func27 (by kernel_rfl) (bb := 16) (by kernel_rfl) (by decide) (by decide) Try.sizeOf35 hr
  · split at hs
    · rename_i hg; subst hg
      cases hs
      exact clone_ok (X := X0) (ρ := Try.laysE41b_ren) Try.laysE41b (e := PtT) Try.func39 (by kernel_rfl) (bb := 16) (by kernel_rfl) (by decide) (by decide) Try.sizeOf35 hr
    · split at hs
      · rename_i hg; subst hg
        cases hs
        exact sort_ok (X := X0) (ρ := Try.laysF6_ren) Try.laysF6 Try.func28 (by kernel_rfl) Try.isAgg35 Try.sizeOf35 cf35 swo35 total35 29 (enters_of Try.func29 (by kernel_rfl) rfl) lays35 Hu.sortPts sort35 hr
      · cases hs
end Go.Hl
