import Derived.Test.YtgjaamjbagoieaaBAmA
import Derived.Test.YtgjaamjbagoieaaBAmC
import Derived.Carry
import Derived.OpenVars
import Derived.ChangeBears
import Derived.ChangeArms
import Derived.OpenShut
import Derived.ChangeSame
import Derived.RowKit
import Derived.Deep.DeepHandedRow
set_option linter.unusedVariables false
set_option linter.unusedSimpArgs false
set_option linter.unnecessarySimpa false
/-
  THE ABSTRACT MACHINE: the loops of a program's text, found by their first region.
-/
namespace Go.Am
open Go
def findLoop : Code → Nat → Option Code
  | .loop b, r => if firstRegion b = some r then some b else findLoop b r
  | .seq a b, r => match findLoop a r with | some x => some x | none => findLoop b r
  | .block _ b, r => findLoop b r
  | .cond _ a b, r => match findLoop a r with | some x => some x | none => findLoop b r
  | .scope b, r => findLoop b r
  | .rangeFunc _ _ a b, r => match findLoop a r with | some x => some x | none => findLoop b r
  | _, _ => none
def loopOf (X : Ext) (f r : Nat) : Code := (((X.P.funcs[f]?).bind (·.body)).bind fun c => findLoop c r).getD .skip
/-- A loop over a function in a text, by its number: its assignments and its body. -/
def findRF : Code → Nat → (Code × Code) ⊕ Nat
  | .rangeFunc _ _ a b, n => match n with
    | 0 => .inl (a, b)
    | n + 1 => match findRF a n with | .inl x => .inl x | .inr n => findRF b n
  | .seq a b, n => match findRF a n with | .inl x => .inl x | .inr n => findRF b n
  | .block _ b, n => findRF b n
  | .cond _ a b, n => match findRF a n with | .inl x => .inl x | .inr n => findRF b n
  | .loop b, n => findRF b n
  | .scope b, n => findRF b n
  | _, n => .inr n
def rfOf (X : Ext) (f i : Nat) : Code × Code := match (X.P.funcs[f]?).bind (·.body) with
  | some c => match findRF c i with | .inl x => x | .inr _ => (.skip, .skip)
  | none => (.skip, .skip)
def rfAssign (X : Ext) (f i : Nat) : Code := (rfOf X f i).1
def rfBody (X : Ext) (f i : Nat) : Code := (rfOf X f i).2

/-! ### The machine with fuel, some rounds down -/
def recs (X : Ext) : Nat → Nat → Rec
  | 0, n => run X n
  | k + 1, n => { callT := (run X (n + (k + 1))).callT, callH := bodyH X (recs X k n), loop := (run X (n + (k + 1))).loop }
theorem recs_eq (X : Ext) : ∀ k n, recs X k n = run X (n + k)
  | 0, _ => rfl
  | k + 1, n => by
    show ({ callT := (run X (n + (k + 1))).callT, callH := bodyH X (recs X k n), loop := (run X (n + (k + 1))).loop } : Rec) = _
    rw [recs_eq X k n]
    rfl
theorem run_callT1 (X : Ext) (n : Nat) (g : FuncId) (t : Ty) (args : List AV) : (run X (n + 2)).callT g t args = bodyT X { callT := (run X (n + 1)).callT, callH := bodyH X (run X n), loop := (run X (n + 1)).loop } g t args := by
  show bodyT X (run X (n + 1)) g t args = _
  rw [← recs_eq X 1 n]
  rfl
theorem run_loop1 (X : Ext) (n : Nat) (b : Code) (sh : Shape) (A : Amb) (z : sh.head.ty.den) : (run X (n + 2)).loop b sh A z = loopD X { callT := (run X (n + 1)).callT, callH := bodyH X (run X n), loop := (run X (n + 1)).loop } b sh A z := by
  show loopD X (run X (n + 1)) b sh A z = _
  rw [← recs_eq X 1 n]
  rfl
theorem run_callT2 (X : Ext) (n : Nat) (g : FuncId) (t : Ty) (args : List AV) : (run X (n + 3)).callT g t args = bodyT X { callT := (run X (n + 2)).callT, callH := bodyH X { callT := (run X (n + 1)).callT, callH := bodyH X (run X n), loop := (run X (n + 1)).loop }, loop := (run X (n + 2)).loop } g t args := by
  show bodyT X (run X (n + 2)) g t args = _
  rw [← recs_eq X 2 n]
  rfl
theorem run_loop2 (X : Ext) (n : Nat) (b : Code) (sh : Shape) (A : Amb) (z : sh.head.ty.den) : (run X (n + 3)).loop b sh A z = loopD X { callT := (run X (n + 2)).callT, callH := bodyH X { callT := (run X (n + 1)).callT, callH := bodyH X (run X n), loop := (run X (n + 1)).loop }, loop := (run X (n + 2)).loop } b sh A z := by
  show loopD X (run X (n + 2)) b sh A z = _
  rw [← recs_eq X 2 n]
  rfl
theorem run_callT3 (X : Ext) (n : Nat) (g : FuncId) (t : Ty) (args : List AV) : (run X (n + 4)).callT g t args = bodyT X { callT := (run X (n + 3)).callT, callH := bodyH X { callT := (run X (n + 2)).callT, callH := bodyH X { callT := (run X (n + 1)).callT, callH := bodyH X (run X n), loop := (run X (n + 1)).loop }, loop := (run X (n + 2)).loop }, loop := (run X (n + 3)).loop } g t args := by
  show bodyT X (run X (n + 3)) g t args = _
  rw [← recs_eq X 3 n]
  rfl
theorem run_loop3 (X : Ext) (n : Nat) (b : Code) (sh : Shape) (A : Amb) (z : sh.head.ty.den) : (run X (n + 4)).loop b sh A z = loopD X { callT := (run X (n + 3)).callT, callH := bodyH X { callT := (run X (n + 2)).callT, callH := bodyH X { callT := (run X (n + 1)).callT, callH := bodyH X (run X n), loop := (run X (n + 1)).loop }, loop := (run X (n + 2)).loop }, loop := (run X (n + 3)).loop } b sh A z := by
  show loopD X (run X (n + 3)) b sh A z = _
  rw [← recs_eq X 3 n]
  rfl
theorem run_callT4 (X : Ext) (n : Nat) (g : FuncId) (t : Ty) (args : List AV) : (run X (n + 5)).callT g t args = bodyT X { callT := (run X (n + 4)).callT, callH := bodyH X { callT := (run X (n + 3)).callT, callH := bodyH X { callT := (run X (n + 2)).callT, callH := bodyH X { callT := (run X (n + 1)).callT, callH := bodyH X (run X n), loop := (run X (n + 1)).loop }, loop := (run X (n + 2)).loop }, loop := (run X (n + 3)).loop }, loop := (run X (n + 4)).loop } g t args := by
  show bodyT X (run X (n + 4)) g t args = _
  rw [← recs_eq X 4 n]
  rfl
theorem run_loop4 (X : Ext) (n : Nat) (b : Code) (sh : Shape) (A : Amb) (z : sh.head.ty.den) : (run X (n + 5)).loop b sh A z = loopD X { callT := (run X (n + 4)).callT, callH := bodyH X { callT := (run X (n + 3)).callT, callH := bodyH X { callT := (run X (n + 2)).callT, callH := bodyH X { callT := (run X (n + 1)).callT, callH := bodyH X (run X n), loop := (run X (n + 1)).loop }, loop := (run X (n + 2)).loop }, loop := (run X (n + 3)).loop }, loop := (run X (n + 4)).loop } b sh A z := by
  show loopD X (run X (n + 4)) b sh A z = _
  rw [← recs_eq X 4 n]
  rfl
theorem run_callT5 (X : Ext) (n : Nat) (g : FuncId) (t : Ty) (args : List AV) : (run X (n + 6)).callT g t args = bodyT X { callT := (run X (n + 5)).callT, callH := bodyH X { callT := (run X (n + 4)).callT, callH := bodyH X { callT := (run X (n + 3)).callT, callH := bodyH X { callT := (run X (n + 2)).callT, callH := bodyH X { callT := (run X (n + 1)).callT, callH := bodyH X (run X n), loop := (run X (n + 1)).loop }, loop := (run X (n + 2)).loop }, loop := (run X (n + 3)).loop }, loop := (run X (n + 4)).loop }, loop := (run X (n + 5)).loop } g t args := by
  show bodyT X (run X (n + 5)) g t args = _
  rw [← recs_eq X 5 n]
  rfl
theorem run_loop5 (X : Ext) (n : Nat) (b : Code) (sh : Shape) (A : Amb) (z : sh.head.ty.den) : (run X (n + 6)).loop b sh A z = loopD X { callT := (run X (n + 5)).callT, callH := bodyH X { callT := (run X (n + 4)).callT, callH := bodyH X { callT := (run X (n + 3)).callT, callH := bodyH X { callT := (run X (n + 2)).callT, callH := bodyH X { callT := (run X (n + 1)).callT, callH := bodyH X (run X n), loop := (run X (n + 1)).loop }, loop := (run X (n + 2)).loop }, loop := (run X (n + 3)).loop }, loop := (run X (n + 4)).loop }, loop := (run X (n + 5)).loop } b sh A z := by
  show loopD X (run X (n + 5)) b sh A z = _
  rw [← recs_eq X 5 n]
  rfl
theorem run_callT6 (X : Ext) (n : Nat) (g : FuncId) (t : Ty) (args : List AV) : (run X (n + 7)).callT g t args = bodyT X { callT := (run X (n + 6)).callT, callH := bodyH X { callT := (run X (n + 5)).callT, callH := bodyH X { callT := (run X (n + 4)).callT, callH := bodyH X { callT := (run X (n + 3)).callT, callH := bodyH X { callT := (run X (n + 2)).callT, callH := bodyH X { callT := (run X (n + 1)).callT, callH := bodyH X (run X n), loop := (run X (n + 1)).loop }, loop := (run X (n + 2)).loop }, loop := (run X (n + 3)).loop }, loop := (run X (n + 4)).loop }, loop := (run X (n + 5)).loop }, loop := (run X (n + 6)).loop } g t args := by
  show bodyT X (run X (n + 6)) g t args = _
  rw [← recs_eq X 6 n]
  rfl
theorem run_loop6 (X : Ext) (n : Nat) (b : Code) (sh : Shape) (A : Amb) (z : sh.head.ty.den) : (run X (n + 7)).loop b sh A z = loopD X { callT := (run X (n + 6)).callT, callH := bodyH X { callT := (run X (n + 5)).callT, callH := bodyH X { callT := (run X (n + 4)).callT, callH := bodyH X { callT := (run X (n + 3)).callT, callH := bodyH X { callT := (run X (n + 2)).callT, callH := bodyH X { callT := (run X (n + 1)).callT, callH := bodyH X (run X n), loop := (run X (n + 1)).loop }, loop := (run X (n + 2)).loop }, loop := (run X (n + 3)).loop }, loop := (run X (n + 4)).loop }, loop := (run X (n + 5)).loop }, loop := (run X (n + 6)).loop } b sh A z := by
  show loopD X (run X (n + 6)) b sh A z = _
  rw [← recs_eq X 6 n]
  rfl
theorem run_callT7 (X : Ext) (n : Nat) (g : FuncId) (t : Ty) (args : List AV) : (run X (n + 8)).callT g t args = bodyT X { callT := (run X (n + 7)).callT, callH := bodyH X { callT := (run X (n + 6)).callT, callH := bodyH X { callT := (run X (n + 5)).callT, callH := bodyH X { callT := (run X (n + 4)).callT, callH := bodyH X { callT := (run X (n + 3)).callT, callH := bodyH X { callT := (run X (n + 2)).callT, callH := bodyH X { callT := (run X (n + 1)).callT, callH := bodyH X (run X n), loop := (run X (n + 1)).loop }, loop := (run X (n + 2)).loop }, loop := (run X (n + 3)).loop }, loop := (run X (n + 4)).loop }, loop := (run X (n + 5)).loop }, loop := (run X (n + 6)).loop }, loop := (run X (n + 7)).loop } g t args := by
  show bodyT X (run X (n + 7)) g t args = _
  rw [← recs_eq X 7 n]
  rfl
theorem run_loop7 (X : Ext) (n : Nat) (b : Code) (sh : Shape) (A : Amb) (z : sh.head.ty.den) : (run X (n + 8)).loop b sh A z = loopD X { callT := (run X (n + 7)).callT, callH := bodyH X { callT := (run X (n + 6)).callT, callH := bodyH X { callT := (run X (n + 5)).callT, callH := bodyH X { callT := (run X (n + 4)).callT, callH := bodyH X { callT := (run X (n + 3)).callT, callH := bodyH X { callT := (run X (n + 2)).callT, callH := bodyH X { callT := (run X (n + 1)).callT, callH := bodyH X (run X n), loop := (run X (n + 1)).loop }, loop := (run X (n + 2)).loop }, loop := (run X (n + 3)).loop }, loop := (run X (n + 4)).loop }, loop := (run X (n + 5)).loop }, loop := (run X (n + 6)).loop }, loop := (run X (n + 7)).loop } b sh A z := by
  show loopD X (run X (n + 7)) b sh A z = _
  rw [← recs_eq X 7 n]
  rfl
theorem run_callT8 (X : Ext) (n : Nat) (g : FuncId) (t : Ty) (args : List AV) : (run X (n + 9)).callT g t args = bodyT X { callT := (run X (n + 8)).callT, callH := bodyH X { callT := (run X (n + 7)).callT, callH := bodyH X { callT := (run X (n + 6)).callT, callH := bodyH X { callT := (run X (n + 5)).callT, callH := bodyH X { callT := (run X (n + 4)).callT, callH := bodyH X { callT := (run X (n + 3)).callT, callH := bodyH X { callT := (run X (n + 2)).callT, callH := bodyH X { callT := (run X (n + 1)).callT, callH := bodyH X (run X n), loop := (run X (n + 1)).loop }, loop := (run X (n + 2)).loop }, loop := (run X (n + 3)).loop }, loop := (run X (n + 4)).loop }, loop := (run X (n + 5)).loop }, loop := (run X (n + 6)).loop }, loop := (run X (n + 7)).loop }, loop := (run X (n + 8)).loop } g t args := by
  show bodyT X (run X (n + 8)) g t args = _
  rw [← recs_eq X 8 n]
  rfl
theorem run_loop8 (X : Ext) (n : Nat) (b : Code) (sh : Shape) (A : Amb) (z : sh.head.ty.den) : (run X (n + 9)).loop b sh A z = loopD X { callT := (run X (n + 8)).callT, callH := bodyH X { callT := (run X (n + 7)).callT, callH := bodyH X { callT := (run X (n + 6)).callT, callH := bodyH X { callT := (run X (n + 5)).callT, callH := bodyH X { callT := (run X (n + 4)).callT, callH := bodyH X { callT := (run X (n + 3)).callT, callH := bodyH X { callT := (run X (n + 2)).callT, callH := bodyH X { callT := (run X (n + 1)).callT, callH := bodyH X (run X n), loop := (run X (n + 1)).loop }, loop := (run X (n + 2)).loop }, loop := (run X (n + 3)).loop }, loop := (run X (n + 4)).loop }, loop := (run X (n + 5)).loop }, loop := (run X (n + 6)).loop }, loop := (run X (n + 7)).loop }, loop := (run X (n + 8)).loop } b sh A z := by
  show loopD X (run X (n + 8)) b sh A z = _
  rw [← recs_eq X 8 n]
  rfl
end Go.Am

/-
  THE ABSTRACT MACHINE: from the arguments of a row to typed data; from the machine's answer to what a row says behind the call.
-/
namespace Go.Am
open Go Go.ChangeShapes Go.WideShapes Go.RowKit

/-- What reading data says of it, beyond its type. -/
def Ty.wf : (t : Ty) → t.den → Prop
  | .unit, _ => True
  | .int k, n => (Lit.int k n).wf = true
  | .bool, _ => True
  | .str, s => s.size ≤ maxLen
  | .slice e, xs => xs.length ≤ maxLen ∧ ∀ x ∈ xs, e.wf x
  | .pair a b, p => a.wf p.1 ∧ b.wf p.2
  | .sum _ _, _ => False

/-- All cells as they are. -/
def snap (w : World) : Fix := fun b o => w.cell? ⟨b, o, none⟩

theorem cell_lt {w : World} {a : Addr} {v : Value} (h : w.cell? a = some v) : a.block < w.heap.size ∧ a.spot = none := by
  unfold World.cell? at h
  split at h
  · rename_i c t f e
    refine ⟨(Array.getElem?_eq_some_iff.1 e).1, ?_⟩
    cases hs : a.spot with
    | none => rfl
    | some _ => rw [hs] at h; cases h
  · cases h

theorem snap_ok (w : World) : FixOk (snap w) w := fun b o v h => ⟨(cell_lt h).1, h⟩

theorem snap_at {w : World} {a : Addr} {i : Nat} {v : Value} (h : w.cell? (a.add i) = some v) : FixAt (snap w) a i v := by
  have h1 := cell_lt h
  refine ⟨h1.2, ?_⟩
  unfold snap
  rw [← h]
  congr 1
  cases e : a.add i with
  | mk b o s => rw [e] at h1; simp only at h1; rw [h1.2]

theorem fix_le_snap {F : Fix} {w : World} (h : FixOk F w) : Fix.le F (snap w) := fun b o v e => (h b o v e).2

section
variable {P : Program} {H : Type} {enc : TypeId × Value → H} {W : World} {sp : Nat → Bool} {hd : Bool}

theorem row_cells {d : Nat} (ih : ∀ (t : TypeId) (τ : Ty) (fuel : Nat) (cs : List Value) (x : DataW H × List MemPlace), t < P.types.size → tyOf P d t = some τ → DataW.trod enc P W 0 sp hd fuel t cs = some x → ∃ y : τ.den, CellsD (snap W) τ y cs ∧ τ.wf y) :
    ∀ (l : List (Nat × TypeId)) (τs : List Ty) (off : Nat) (cs : List Value), l.mapM (fun f => tyOf P d f.2) = some τs →
      (∀ (j : Nat) f, l[j]? = some f → f.1 = off + ((l.take j).map fun f => P.cellsOf f.2).sum ∧ f.2 < P.types.size ∧ ∃ n x, DataW.trod enc P W 0 sp hd n f.2 ((cs.drop f.1).take (P.cellsOf f.2)) = some x) →
      cs.length = off + (l.map fun f => P.cellsOf f.2).sum → ∃ y : (mkRow τs).den, CellsD (snap W) (mkRow τs) y (cs.drop off) ∧ (mkRow τs).wf y := by
  intro l
  induction l with
  | nil =>
    intro τs off cs hm _ hl
    simp at hm
    subst hm
    refine ⟨(), ?_, trivial⟩
    show cs.drop off = []
    rw [List.drop_eq_nil_iff]
    simpa using Nat.le_of_eq hl
  | cons f l il =>
    intro τs off cs hm hj hl
    rw [List.mapM_cons] at hm
    simp only [Option.pure_def, Option.bind_eq_bind, Option.bind_eq_some_iff, Option.some.injEq] at hm
    obtain ⟨τ, h1, τr, h2, rfl⟩ := hm
    obtain ⟨e0, e1, n, x, e2⟩ := hj 0 f rfl
    simp only [List.take_zero, List.map_nil, List.sum_nil, Nat.add_zero] at e0
    obtain ⟨y, c1, c2⟩ := ih _ _ _ _ _ e1 h1 e2
    rw [e0] at c1
    simp only [List.map_cons, List.sum_cons] at hl
    obtain ⟨z, d1, d2⟩ := il τr (off + P.cellsOf f.2) cs h2 (fun j g hg => by
      obtain ⟨a, b, c⟩ := hj (j + 1) g (by simpa using hg)
      refine ⟨?_, b, c⟩
      rw [a]
      simp only [List.take_succ_cons, List.map_cons, List.sum_cons]
      omega) (by omega)
    have hsplit : cs.drop off = (cs.drop off).take (P.cellsOf f.2) ++ cs.drop (off + P.cellsOf f.2) := by
      rw [← List.drop_drop, List.take_append_drop]
    cases τr with
    | nil =>
      have hz : cs.drop (off + P.cellsOf f.2) = [] := d1
      refine ⟨y, ?_, c2⟩
      rw [hsplit, hz, List.append_nil]
      exact c1
    | cons τ2 τr =>
      refine ⟨(y, z), ?_, c2, d2⟩
      exact ⟨_, _, hsplit, c1, d1⟩

theorem cells_of_trod (hl : laidOutB P = true) : ∀ (d : Nat) (t : TypeId) (τ : Ty) (fuel : Nat) (cs : List Value) (x : DataW H × List MemPlace), t < P.types.size → tyOf P d t = some τ →
    DataW.trod enc P W 0 sp hd fuel t cs = some x → ∃ y : τ.den, CellsD (snap W) τ y cs ∧ τ.wf y := by
  intro d
  induction d with
  | zero => intro t τ fuel cs x _ h; cases h
  | succ d ih =>
    intro t τ fuel cs x ht hτ hx
    unfold tyOf at hτ
    split at hτ
    · rename_i k hu
      cases hτ
      obtain ⟨n, rfl, _, hw⟩ := DataW.trod_int hu hx
      exact ⟨n, rfl, hw⟩
    · rename_i hu
      cases hτ
      obtain ⟨b, rfl, _⟩ := DataW.trod_bool hu hx
      exact ⟨b, rfl, trivial⟩
    · rename_i hu
      cases hτ
      obtain ⟨s, rfl, _, hs⟩ := DataW.trod_string hu hx
      exact ⟨s, rfl, hs⟩
    · rename_i e hu
      rw [Option.bind_eq_some_iff] at hτ
      obtain ⟨τe, he, hτ⟩ := hτ
      split at hτ
      · rename_i hw
        cases hτ
        have hwc : τe.width = P.cellsOf e := hw
        rcases DataW.trod_slice hu hx with ⟨rfl, _⟩ | ⟨a, len, cap, elems, rest, n, _, rfl, _, _, hlc, hcm, hel, hget, _⟩
        · exact ⟨[], ⟨none, 0, rfl, ⟨Nat.le_refl _, (fun _ => rfl), Nat.zero_le _⟩, fun i x h => by simp at h⟩, Nat.zero_le _, fun x h => by simp at h⟩
        · have key : ∀ i : Fin len, ∃ y : τe.den, (∃ ds, CellsD (snap W) τe y ds ∧ ∀ j v, ds[j]? = some v → FixAt (snap W) a (i.val * τe.width + j) v) ∧ τe.wf y := by
            intro i
            have h1 := hget i.val i.isLt
            have h2 : elems[i.val]? = some elems[i.val] := List.getElem?_eq_getElem (by omega)
            rw [h2, Option.bind_eq_some_iff] at h1
            obtain ⟨ds, h3, h4⟩ := h1
            obtain ⟨y, h5, h6⟩ := ih e τe _ _ _ (kid_slice hl ht hu) he h4
            refine ⟨y, ⟨ds, h5, fun j v hj => ?_⟩, h6⟩
            unfold World.cells? at h3
            rw [if_pos (Nat.zero_le _)] at h3
            have hjl : j < P.cellsOf e := by
              have := mapM_some_length h3
              simp only [List.length_range] at this
              have := (List.getElem?_eq_some_iff.1 hj).1
              omega
            have h7 := mapM_some_get h3 j j (by simp [hjl])
            rw [hj, add_add] at h7
            rw [hwc]
            exact snap_at h7
          refine ⟨List.ofFn fun i => (key i).choose, ⟨some a, cap, by simp, ⟨by simpa using hlc, (fun h => by cases h), hcm⟩, fun i x hx => ?_⟩, by simp; omega, fun x hx => ?_⟩
          · rw [List.getElem?_ofFn] at hx
            split at hx
            · rename_i hi
              cases hx
              obtain ⟨ds, k1, k2⟩ := (key ⟨i, hi⟩).choose_spec.1
              exact ⟨ds, k1, fun j v hv => ⟨a, rfl, k2 j v hv⟩⟩
            · cases hx
          · rw [List.mem_ofFn] at hx
            obtain ⟨i, rfl⟩ := hx
            exact (key i).choose_spec.2
      · cases hτ
    · rename_i fs hu
      rw [Option.map_eq_some_iff] at hτ
      obtain ⟨τs, hm, rfl⟩ := hτ
      obtain ⟨xs, n, _, _, hlen, hxl, hget⟩ := DataW.trod_struct hu hx
      obtain ⟨k1, k2, k3⟩ := kid_struct hl ht hu
      have := row_cells ih (fs.toList.map fun f => (f.offset, f.type)) τs 0 cs ?_ ?_ ?_
      · simpa using this
      · rw [List.mapM_map]; exact hm
      · intro j f hf
        rw [List.getElem?_map, Option.map_eq_some_iff] at hf
        obtain ⟨f0, hf0, rfl⟩ := hf
        refine ⟨?_, k1 _ (List.mem_of_getElem? hf0), ?_⟩
        · have := k3 j f0 hf0
          simp only [this, Nat.zero_add, ← List.map_take, List.map_map]
          rfl
        · have h1 := hget j f0 (by simpa using hf0)
          have hj : j < xs.length := by
            have := (List.getElem?_eq_some_iff.1 hf0).1
            simp at this
            omega
          rw [List.getElem?_eq_getElem hj] at h1
          exact ⟨n, _, h1⟩
      · rw [hlen, k2]
        simp only [Nat.zero_add, List.map_map]
        rfl
    · rename_i m e hu
      rw [Option.map_eq_some_iff] at hτ
      obtain ⟨τe, hm, rfl⟩ := hτ
      obtain ⟨xs, n, _, _, hlen, hxl, hget⟩ := DataW.trod_array hu hx
      obtain ⟨k1, k2⟩ := kid_array hl ht hu
      have hsum : ∀ k, ((List.range k).map fun _ => P.cellsOf e).sum = k * P.cellsOf e := fun k => by
        induction k with
        | zero => simp
        | succ k ik => rw [List.range_succ, List.map_append, List.sum_append, ik]; simp [Nat.add_mul]
      have := row_cells ih ((List.range m).map fun i => (i * P.cellsOf e, e)) (tyRep m τe) 0 cs ?_ ?_ ?_
      · simpa using this
      · clear hget hx hu hlen hxl k2
        unfold tyRep
        rw [List.mapM_map]
        have : ∀ (L : List Nat), L.mapM (fun _ => tyOf P d e) = some (List.replicate L.length τe) := by
          intro L
          induction L with
          | nil => rfl
          | cons a L iL => rw [List.mapM_cons, iL, hm]; rfl
        have h2 := this (List.range m)
        rw [List.length_range] at h2
        exact h2
      · intro j f hf
        rw [List.getElem?_map, Option.map_eq_some_iff] at hf
        obtain ⟨i, hi, rfl⟩ := hf
        have hjm : j < m := by
          have := (List.getElem?_eq_some_iff.1 hi).1
          simpa using this
        have hij : j = i := by
          rw [List.getElem?_range hjm] at hi
          exact Option.some.inj hi
        subst hij
        refine ⟨?_, k1, ?_⟩
        · simp only [Nat.zero_add, ← List.map_take, List.map_map]
          rw [List.take_range, Nat.min_eq_left (by omega)]
          exact (hsum j).symm
        · have h1 := hget j hjm
          rw [List.getElem?_eq_getElem (by omega)] at h1
          exact ⟨n, _, h1⟩
      · rw [hlen, k2]
        simp only [Nat.zero_add, List.map_map]
        exact (hsum m).symm
    · cases hτ

/-- An argument: typed data, and the machine's value of it. -/
theorem arg_of (hl : laidOutB P = true) {t : TypeId} {τ : Ty} {v : Value} {dt : DataW H} {ps : List MemPlace} {r : Reach} {base : Nat} (ht : t < P.types.size) (hτ : tyOf P tdepth t = some τ) (hok : Value.okWide P W r base t v)
    (h : DataW.Trod enc P W 0 sp hd t v dt ps) : ∃ y : τ.den, τ.wf y ∧ Rep (snap W) nowhere nowhere noOwn (ofLeaves P t (τ.leaves y)) v := by
  obtain ⟨fuel, h⟩ := h
  obtain ⟨y, h1, h2⟩ := cells_of_trod hl _ _ _ _ _ _ ht hτ h
  refine ⟨y, h2, ?_⟩
  have h3 : RepL (snap W) nowhere nowhere (τ.leaves y) v.cells.toList := repL_leaves h1
  unfold ofLeaves
  have one : ∀ u, v = u → u.cells = #[u] → ∀ (l : List AV), RepL (snap W) nowhere nowhere l u.cells.toList → Rep (snap W) nowhere nowhere noOwn (match l with
    | x :: _ => x
    | [] => .top) v := by
    intro u hu hc l hl
    rw [hc] at hl
    cases hl with
    | cons a _ l _ ha _ => rw [hu]; exact ha
  change tyOf P (11 + 1) t = some τ at hτ
  unfold tyOf at hτ
  unfold Value.okWide at hok
  split at hτ
  · rename_i k hu
    obtain ⟨n, hv⟩ := okWide_int (v := v) (w := W) (r := r) (base := base) hu (by unfold Value.okWide; rw [hu] at hok ⊢; exact hok)
    have ha : aggType P t = false := by unfold aggType; rw [hu]
    rw [ha]
    exact one _ hv rfl _ (hv ▸ h3)
  · rename_i hu
    obtain ⟨n, hv⟩ := okWide_bool (v := v) (w := W) (r := r) (base := base) hu (by unfold Value.okWide; rw [hu] at hok ⊢; exact hok)
    have ha : aggType P t = false := by unfold aggType; rw [hu]
    rw [ha]
    exact one _ hv rfl _ (hv ▸ h3)
  · rename_i hu
    obtain ⟨n, hv⟩ := okWide_string (v := v) (w := W) (r := r) (base := base) hu (by unfold Value.okWide; rw [hu] at hok ⊢; exact hok)
    have ha : aggType P t = false := by unfold aggType; rw [hu]
    rw [ha]
    exact one _ hv rfl _ (hv ▸ h3)
  · rename_i e hu
    obtain ⟨a, len, cap, hv⟩ := okWide_slice (v := v) (w := W) (r := r) (base := base) hu (by unfold Value.okWide; rw [hu] at hok ⊢; exact hok)
    have ha : aggType P t = false := by unfold aggType; rw [hu]
    rw [ha]
    exact one _ hv rfl _ (hv ▸ h3)
  · rename_i fs hu
    rw [hu] at hok
    obtain ⟨cs, hv, _⟩ := hok
    have ha : aggType P t = true := by unfold aggType; rw [hu]
    rw [if_pos ha, hv]
    have := Rep.agg (F := snap W) (σ := nowhere) (lm := nowhere) noOwn _ _ h3
    rw [hv] at this
    simpa [Value.cells] using this
  · rename_i m e hu
    rw [hu] at hok
    obtain ⟨cs, hv, _⟩ := hok
    have ha : aggType P t = true := by unfold aggType; rw [hu]
    rw [if_pos ha, hv]
    have := Rep.agg (F := snap W) (σ := nowhere) (lm := nowhere) noOwn _ _ h3
    rw [hv] at this
    simpa [Value.cells] using this
  · cases hτ

end

/-! ### Behind the call -/
theorem Keeps.below {F : Fix} {w w' : World} {T' : Tags} (h : Keeps (maskF F) w T' w') : Below w.heap.size w w' :=
  ⟨h.os, h.tape, h.output, h.size, fun k hk => h.block k hk fun o => maskF_mine F k o⟩

section
variable {H : Type} {enc : TypeId × Value → H} {P : Program}

theorem trodAll_stays (hl : laidOutB P = true) {W W' : World} {sp' : Nat → Bool} : ∀ {ts : List TypeId} {vs : List Value} {ds : List (DataW H)} {ps : List MemPlace}, (ts.all fun t => P.readableRec t && decide (t < P.types.size)) = true →
    DataW.TrodAll enc P W 0 (fun _ => true) true ts vs ds ps → (∀ p ∈ ps, W.sameAt W' p) → (∀ p ∈ ps, sp' p.block = true) → DataW.TrodAll enc P W' 0 sp' true ts vs ds ps := by
  intro ts
  induction ts with
  | nil =>
    intro vs ds ps _ h _ _
    obtain ⟨rfl, rfl, rfl⟩ := trodAll_nil h
    exact rfl
  | cons t ts ih =>
    intro vs ds ps ht h hs hp
    obtain ⟨v, vs1, d, ds1, a, b, rfl, rfl, rfl, h1, h2⟩ := trodAll_cons h
    simp only [List.all_cons, Bool.and_eq_true, decide_eq_true_eq] at ht
    exact ⟨a, b, WideElems.Trod_stays hl ht.1.1 ht.1.2 h1 (fun p hp' => hs p (by simp [hp'])) (fun p hp' => hp p (by simp [hp'])),
      ih ht.2 h2 (fun p hp' => hs p (by simp [hp'])) (fun p hp' => hp p (by simp [hp'])), rfl⟩

/-- A call that answers 'true' and leaves all old cells as they were: what a law's row says behind it. -/
theorem law_post {f : Func} {s : ChangeSpec} {apart fresh handsOn again : Bool} {W W' : World} {args : Array Value} {ds : List (DataW H)} {before : List MemPlace} {tb : TypeId}
    (hl : laidOutB P = true) (hW : DataW.Whole enc P f.params.toList s.vars apart W args.toList ds [] before) (hv : s.vars = [])
    (hts : (f.params.toList.all fun t => P.readableRec t && decide (t < P.types.size)) = true) (hr : f.resultTypes = #[tb]) (htb : P.underlying tb = some .bool)
    (hs : s.fn H ds = { results := [.lit (.bool true)], args := ds }) (hb : Below W.heap.size W W') :
    s.post enc P f apart fresh handsOn again W args (.bool true) W' := by
  have hlt : ∀ p ∈ before, p.block < W.heap.size := fun p hp => hW.lt p hp
  obtain ⟨p, q, h1, h2, rfl, h3, h4⟩ := id hW
  rw [hv] at h2
  obtain ⟨_, rfl⟩ := trodVars_none h2
  have hsame : ∀ x ∈ p, W.sameAt W' x := fun x hx => hb.same (hlt x (by simp [hx]))
  have hargs : ∀ sp : Nat → Bool, (∀ x ∈ p, sp x.block = true) → DataW.TrodAll enc P W' 0 sp true f.params.toList args.toList ds p := fun sp hsp => trodAll_stays hl hts h1 hsame hsp
  have hres : ∀ (b : Nat) (sp : Nat → Bool) (hd : Bool), DataW.TrodAll enc P W' b sp hd f.resultTypes.toList ((Value.bool true).resultList f.resultTypes.size) [.lit (.bool true)] [] := fun b sp hd => by
    rw [hr]
    exact trodAll_cons_mk (RowKit.shut_bool htb _) trodAll_mk0
  have hfz : ∀ b off, b < W.heap.size → W'.frozen? ⟨b, off, none⟩ = W.frozen? ⟨b, off, none⟩ := fun b off h => by
    unfold World.frozen?
    simp only [hb.block b h]
  have hs' : s.fn H (ds ++ []) = { results := [.lit (.bool true)], args := ds } := by rw [List.append_nil]; exact hs
  refine ⟨ds, [], p ++ [], [], p, [], hW, ?_, ?_, ?_, ?_, fun _ => ⟨RowKit.ok_one hr rfl (RowKit.okWide_bool_mk htb _), [.lit (.bool true)] ++ ds, [], p ++ [], ⟨[] ++ p, [], ?_, ?_, ?_, ?_, ?_⟩, ?_⟩⟩
  · rw [hs']; exact hres _ _ _
  · rw [hs']; exact hargs _ fun x hx => by simpa using hlt x (by simp [hx])
  · rw [hs', hv]; exact rfl
  · refine ⟨hb.os, hb.output, fun i hi => ?_⟩
    rw [hb.block i hi]
    cases e : W.heap[i]? with
    | none => exact rfl
    | some o => cases o <;> first | exact ⟨rfl, rfl, rfl, fun _ _ => rfl⟩ | exact .inr ⟨rfl, rfl⟩ | exact rfl
  · exact trodAll_append (hargs _ fun _ _ => rfl) (hres _ _ _)
  · rw [hv]; exact rfl
  · simp
  · intro b off hx
    have hb' : b < W.heap.size := hlt _ hx
    rw [hfz b off hb']
    exact h3 b off hx
  · exact h4
  · exact fun x hx _ => hx

end

/-! ### A row's arguments as typed data -/
@[reducible] def HRow : List Ty → Type
  | [] => Unit
  | t :: l => t.den × HRow l
def HRow.wf : (l : List Ty) → HRow l → Prop
  | [], _ => True
  | t :: l, x => t.wf x.1 ∧ HRow.wf l x.2
def HRow.avs (P : Program) : (ts : List TypeId) → (l : List Ty) → HRow l → List AV
  | t :: ts, τ :: l, x => ofLeaves P t (τ.leaves x.1) :: HRow.avs P ts l x.2
  | _, _, _ => []

theorem args_of {H : Type} {enc : TypeId × Value → H} {P : Program} (hl : laidOutB P = true) {W : World} {base : Nat} {r : Reach} : ∀ {ts : List TypeId} {τs : List Ty} {vs : List Value} {ds : List (DataW H)} {ps : List MemPlace},
    ts.mapM (tyOf P tdepth) = some τs → (∀ t ∈ ts, t < P.types.size) → (∀ (j : Nat) t v, ts[j]? = some t → vs[j]? = some v → Value.okWide P W r base t v) → DataW.TrodAll enc P W 0 (fun _ => true) true ts vs ds ps →
    ∃ y : HRow τs, HRow.wf τs y ∧ RepL (snap W) nowhere nowhere (HRow.avs P ts τs y) vs := by
  intro ts
  induction ts with
  | nil =>
    intro τs vs ds ps hm _ _ h
    obtain ⟨rfl, rfl, rfl⟩ := trodAll_nil h
    simp at hm
    subst hm
    exact ⟨(), trivial, .nil⟩
  | cons t ts ih =>
    intro τs vs ds ps hm ht hok h
    obtain ⟨v, vs1, d, ds1, a, b, rfl, rfl, rfl, h1, h2⟩ := trodAll_cons h
    rw [List.mapM_cons] at hm
    simp only [Option.pure_def, Option.bind_eq_bind, Option.bind_eq_some_iff, Option.some.injEq] at hm
    obtain ⟨τ, e1, τr, e2, rfl⟩ := hm
    obtain ⟨y, y1, y2⟩ := arg_of hl (ht t (by simp)) e1 (hok 0 t v rfl rfl) h1
    obtain ⟨z, z1, z2⟩ := ih e2 (fun u hu => ht u (by simp [hu])) (fun j u x hu hx => hok (j + 1) u x (by simpa using hu) (by simpa using hx)) h2
    exact ⟨(y, z), ⟨y1, z1⟩, .cons _ _ _ _ y2 z2⟩

theorem closed_leaves : ∀ {t : Ty} {x : t.den}, closedL (t.leaves x) = true := by
  intro t
  induction t with
  | pair a b iha ihb =>
    intro x
    show closedL (a.leaves x.1 ++ b.leaves x.2) = true
    have : ∀ l m : List AV, closedL l = true → closedL m = true → closedL (l ++ m) = true := by
      intro l m h1 h2
      induction l with
      | nil => exact h2
      | cons v l il =>
        simp only [closedL, List.cons_append, Bool.and_eq_true] at h1 ⊢
        exact ⟨h1.1, il h1.2⟩
    exact this _ _ iha ihb
  | _ => intro x; rfl

theorem closed_avs (P : Program) : ∀ {ts : List TypeId} {τs : List Ty} {y : HRow τs}, closedL (HRow.avs P ts τs y) = true := by
  intro ts
  induction ts with
  | nil => intro τs y; cases τs <;> rfl
  | cons t ts ih =>
    intro τs y
    cases τs with
    | nil => rfl
    | cons τ τs =>
      show ((ofLeaves P t (τ.leaves y.1)).closed && closedL (HRow.avs P ts τs y.2)) = true
      rw [ih, Bool.and_true]
      have h := closed_leaves (t := τ) (x := y.1)
      unfold ofLeaves
      split
      · exact h
      · split
        · rename_i v l e
          rw [e] at h
          simp only [closedL, Bool.and_eq_true] at h
          exact h.1
        · rfl

/-- A law, from its arguments to what its row says: the machine's answer is all that is left to show. -/
theorem law_contract {X : Ext} (hX : ProgOk X) (hS : SpecOk X) (hH : SpecHOk X) (hl : laidOutB X.P = true) {g : FuncId} {f : Func} {s : ChangeSpec} {apart fresh handsOn again : Bool} {tb : TypeId} {τs : List Ty}
    (hv : s.vars = []) (hts : (f.params.toList.all fun t => X.P.readableRec t && decide (t < X.P.types.size)) = true) (hr : f.resultTypes = #[tb]) (htb : X.P.underlying tb = some .bool)
    (hτ : f.params.toList.mapM (tyOf X.P tdepth) = some τs) (hin : injRet X g .bool true = .bool true)
    {H : Type} {enc : TypeId × Value → H} {W : World} {base : Nat} {args : Array Value} {ds gs : List (DataW H)} {before : List MemPlace}
    (hval : ∀ (j : Nat) t v, f.params[j]? = some t → args[j]? = some v → Value.okWide X.P W .any base t v)
    (hW : DataW.Whole enc X.P f.params.toList s.vars apart W args.toList ds gs before) (hG : GlobOk X (snap W))
    (hs : ds.length = f.params.size → s.fn H ds = { results := [.lit (.bool true)], args := ds })
    (hrun : ∀ y : HRow τs, HRow.wf τs y → ∃ n, (run X n).callT g .bool (HRow.avs X.P f.params.toList τs y) = some true) :
    Calls X.P g args W fun e W' => ∃ v, e = .returned v ∧ s.post enc X.P f apart fresh handsOn again W args v W' := by
  obtain ⟨p, q, h1, h2, h3, h4, h5⟩ := id hW
  obtain ⟨hgs, _⟩ := trodVars_none (hv ▸ h2)
  obtain ⟨y, y1, y2⟩ := args_of (r := .any) (base := base) hl hτ (fun t ht => by
    rw [List.all_eq_true] at hts
    have := hts t ht
    simp only [Bool.and_eq_true, decide_eq_true_eq] at this
    exact this.2) (fun j t v ht hv' => hval j t v (by simpa using ht) (by simpa using hv')) h1
  obtain ⟨n, hn⟩ := hrun y y1
  obtain ⟨fd, c, k1, k2, k3⟩ := (run_ok hX hS hH n).callT g .bool _ _ hn (closed_avs _) (snap W) W _ (snap_ok W) hG y2
  have hlen : ds.length = f.params.size := by
    have : ∀ {ts : List TypeId} {vs : List Value} {ds : List (DataW H)} {ps : List MemPlace}, DataW.TrodAll enc X.P W 0 (fun _ => true) true ts vs ds ps → ds.length = ts.length := by
      intro ts
      induction ts with
      | nil => intro vs ds ps h; obtain ⟨rfl, rfl, _⟩ := trodAll_nil h; rfl
      | cons t ts ih =>
        intro vs ds ps h
        obtain ⟨_, _, _, _, _, _, rfl, rfl, _, _, h⟩ := trodAll_cons h
        simp [ih h]
    simpa using this h1
  refine (callsIn_wide.1 k3).mono fun e W' he => ?_
  cases e with
  | returned v =>
    obtain ⟨T', K, _, hrep⟩ := he
    rw [hin] at hrep
    cases hrep
    subst hgs
    exact ⟨_, rfl, law_post hl hW hv hts hr htb (hs hlen) K.below⟩
  | panicked ch => exact he.elim
  | outgrown => exact he.elim

end Go.Am

/-
  THE ABSTRACT MACHINE: functions that are not walked: from a contract to what the machine asks of them.
-/
namespace Go.Am
open Go Go.RowKit

theorem inv_mask {F : Fix} {w : World} (h : FixOk F w) : Inv (maskF F) nowhere nowhere [] [] [] w := by
  refine ⟨fun b o v e => ?_, fun b o l j e => ?_, fun b o e => ?_, (fun c b e => by cases e), (fun c l e => by simp at e), (fun c x e => by simp at e), ⟨rfl, (fun i b e => by cases e)⟩, (fun i r e => by simp at e)⟩
  · unfold maskF at e
    cases hf : F b o with
    | none => rw [hf] at e; cases e
    | some u => rw [hf] at e; cases e; exact (h b o _ hf).2
  · unfold maskF at e
    cases hf : F b o <;> rw [hf] at e <;> cases e
  · unfold maskF at e
    cases hf : F b o with
    | none => rw [hf] at e; exact absurd rfl e
    | some u => exact (h b o u hf).1

/-- What was known, and all new cells. -/
def newF (F : Fix) (w w' : World) : Fix := fun b o => if b < w.heap.size then F b o else w'.cell? ⟨b, o, none⟩

theorem newF_le {F : Fix} {w w' : World} (h : FixOk F w) : Fix.le F (newF F w w') := fun b o v e => by
  unfold newF
  rw [if_pos (h b o v e).1]
  exact e
theorem newF_new {F : Fix} {w w' : World} {b o : Nat} {v : Value} (hb : w.heap.size ≤ b) (h : w'.cell? ⟨b, o, none⟩ = some v) : newF F w w' b o = some v := by
  unfold newF
  rw [if_neg (by omega)]
  exact h
theorem below_cell {w w' : World} (hB : Below w.heap.size w w') {b o : Nat} (hb : b < w.heap.size) : w'.cell? ⟨b, o, none⟩ = w.cell? ⟨b, o, none⟩ := by
  unfold World.cell?
  simp only [hB.block b hb]
theorem below_frozen {w w' : World} (hB : Below w.heap.size w w') {b o : Nat} (hb : b < w.heap.size) : w'.frozen? ⟨b, o, none⟩ = w.frozen? ⟨b, o, none⟩ := by
  unfold World.frozen?
  simp only [hB.block b hb]
theorem newF_ok {F : Fix} {w w' : World} (hB : Below w.heap.size w w') (h : FixOk F w) : FixOk (newF F w w') w' := fun b o v e => by
  unfold newF at e
  split at e
  · rename_i hb
    exact ⟨Nat.lt_of_lt_of_le hb hB.size, by rw [below_cell hB hb]; exact (h b o v e).2⟩
  · exact ⟨(cell_lt e).1, e⟩
theorem keeps_new {F : Fix} {w w' : World} (hB : Below w.heap.size w w') (h : FixOk F w) : Keeps (maskF F) w (maskF (newF F w w')) w' := by
  refine ⟨hB.os, hB.tape, hB.output, hB.size, fun b o v e => ?_, fun b o hb e => ?_, fun b o hb _ => ⟨below_cell hB hb, below_frozen hB hb⟩, fun b hb _ => hB.block b hb⟩
  · unfold maskF at e ⊢
    cases hf : F b o with
    | none => rw [hf] at e; cases e
    | some u => rw [hf] at e; rw [newF_le h b o u hf]; exact e
  · unfold maskF at e ⊢
    unfold newF
    rw [if_pos hb]
    exact e

theorem postT_new {X : Ext} {g : FuncId} {t : Ty} {x : t.den} {F : Fix} {w w' : World} {u : Value} (hF : FixOk F w) (hB : Below w.heap.size w w')
    (hr : Rep (newF F w w') nowhere nowhere noOwn (injRet X g t x) u) : PostT X g t x F w u w' := by
  refine ⟨maskF (newF F w w'), keeps_new hB hF, inv_mask (newF_ok hB hF), ?_⟩
  rw [maskF_fix]
  exact hr.mono (Fix.le.refl _) (fun _ _ x => x) (fun _ _ x => x) fun _ _ _ x => x.elim

theorem callsOk_of {X : Ext} {g : FuncId} {fd : Func} {c : Code} {vs : List Value} {w : World} {K : Value → World → Prop} (hf : X.P.funcs[g]? = some fd) (hb : fd.body = some c)
    (h : Calls X.P g vs.toArray w fun e w' => ∃ u, e = .returned u ∧ K u w') : CallsOk X.P (.func g) nowhere vs w K := by
  refine ⟨fd, c, hf, hb, callsIn_wide.2 (h.mono ?_)⟩
  rintro e w' ⟨u, rfl, hk⟩
  exact hk

theorem fixAt_cell {F : Fix} {w : World} (hF : FixOk F w) {a : Addr} {i : Nat} {v : Value} (h : FixAt F a i v) : w.cell? (a.add i) = some v := by
  have h1 := (hF _ _ _ h.2).2
  have e : (⟨(a.add i).block, (a.add i).off, none⟩ : Addr) = a.add i := by
    have := h.1
    cases hq : a.add i with
    | mk b o s => rw [hq] at this; simp only at this; rw [this]
  rw [e] at h1
  exact h1

/-- A row of whole numbers, as an argument. -/
theorem row_arg {F : Fix} {k : IntKind} {a : AV} {v : Value} {xs : List Int} (h : asRow (.int k) a = some xs) (hr : Rep F nowhere nowhere noOwn a v) :
    ∃ ad cap, v = .slice ad xs.length cap ∧ xs.length ≤ cap ∧ (ad = none → cap = 0) ∧ cap ≤ maxLen ∧ ∀ i x, xs[i]? = some x → ∃ b, ad = some b ∧ FixAt F b i (.int k x) := by
  unfold asRow at h
  split at h
  · cases h
    cases hr
    exact ⟨none, 0, rfl, Nat.le_refl _, fun _ => rfl, Nat.zero_le _, fun i x hx => by simp at hx⟩
  · rename_i own e' ys
    split at h
    · rename_i he
      cases he
      cases h
      cases hr with
      | slice _ _ _ _ ad cap hc hrow ho =>
        refine ⟨ad, cap, rfl, hc.1, hc.2.1, hc.2.2, fun i x hx => ?_⟩
        obtain ⟨ds, h1, h2⟩ := hrow i x hx
        have h1' : ds = [.int k x] := h1
        subst h1'
        obtain ⟨b, e1, e2⟩ := h2 0 _ rfl
        refine ⟨b, e1, ?_⟩
        simpa [Ty.width] using e2
    · cases h
  · cases h
end Go.Am

/-
  WITH ENOUGH FUEL: what a function of the machine gives from some round on.
-/
namespace Go.Am
open Go
variable {α β : Type}

def Ev (f : Nat → Option α) (x : α) : Prop := ∃ N, ∀ n, N ≤ n → f n = some x

theorem Ev.pure (x : α) : Ev (fun _ => some x) x := ⟨0, fun _ _ => rfl⟩
theorem Ev.of_eq {f : Nat → Option α} {x : α} (k : Nat) (h : Ev (fun n => f (n + k)) x) : Ev f x := by
  obtain ⟨N, h⟩ := h
  refine ⟨N + k, fun n hn => ?_⟩
  have := h (n - k) (by omega)
  simp only at this
  rwa [Nat.sub_add_cancel (by omega)] at this
theorem Ev.shift {f : Nat → Option α} {x : α} (h : Ev f x) (k : Nat) : Ev (fun n => f (n + k)) x := by
  obtain ⟨N, h⟩ := h
  exact ⟨N, fun n hn => h _ (by omega)⟩
theorem Ev.bind {f : Nat → Option α} {g : Nat → α → Option β} {x : α} {y : β} (h : Ev f x) (k : Ev (fun n => g n x) y) : Ev (fun n => (f n).bind (g n)) y := by
  obtain ⟨N, h⟩ := h
  obtain ⟨M, k⟩ := k
  refine ⟨max N M, fun n hn => ?_⟩
  show (f n).bind (g n) = _
  rw [h n (by omega)]
  exact k n (by omega)
theorem Ev.some {f : Nat → α → Option β} {x : α} {y : β} (k : Ev (fun n => f n x) y) : Ev (fun n => (Option.some x).bind (f n)) y := k
theorem Ev.ite_pos {f g : Nat → Option α} {p : Prop} [Decidable p] {x : α} (h : p) (k : Ev f x) : Ev (fun n => br (decide p) (f n) (g n)) x := by
  rw [decide_eq_true h]; exact k
theorem Ev.ite_neg {f g : Nat → Option α} {p : Prop} [Decidable p] {x : α} (h : ¬ p) (k : Ev g x) : Ev (fun n => br (decide p) (f n) (g n)) x := by
  rw [decide_eq_false h]; exact k
theorem Ev.nite_pos {f g : Nat → Option α} {p : Prop} [Decidable p] {x : α} (h : p) (k : Ev g x) : Ev (fun n => br (!decide p) (f n) (g n)) x := by
  rw [decide_eq_true h]; exact k
theorem Ev.nite_neg {f g : Nat → Option α} {p : Prop} [Decidable p] {x : α} (h : ¬ p) (k : Ev f x) : Ev (fun n => br (!decide p) (f n) (g n)) x := by
  rw [decide_eq_false h]; exact k
theorem Ev.br_true {f g : Nat → Option α} {b : Bool} {x : α} (h : b = true) (k : Ev f x) : Ev (fun n => br b (f n) (g n)) x := by
  rw [h]; exact k
theorem Ev.br_false {f g : Nat → Option α} {b : Bool} {x : α} (h : b = false) (k : Ev g x) : Ev (fun n => br b (f n) (g n)) x := by
  rw [h]; exact k
theorem Ev.get {l : List α} {i : Nat} {f : Nat → α → Option β} {a : α} {y : β} (h : l[i]? = Option.some a) (k : Ev (fun n => f n a) y) : Ev (fun n => (l[i]?).bind (f n)) y := by
  rw [h]; exact k
theorem Ev.congr {f : Nat → Option α} {x y : α} (h : Ev f x) (e : x = y) : Ev f y := e ▸ h
theorem Ev.ite {f g : Nat → Option α} {p : Prop} [Decidable p] {x y : α} (h : p → Ev f x) (k : ¬ p → Ev g y) : Ev (fun n => br (decide p) (f n) (g n)) (if p then x else y) := by
  by_cases hp : p
  · rw [if_pos hp]; exact Ev.ite_pos hp (h hp)
  · rw [if_neg hp]; exact Ev.ite_neg hp (k hp)
theorem i64_eq (n : Int) : IntKind.i64.wrap n = (n + 9223372036854775808) % 18446744073709551616 - 9223372036854775808 := by
  show (if (true && decide (n % 18446744073709551616 ≥ 9223372036854775808)) = true then n % 18446744073709551616 - 18446744073709551616 else n % 18446744073709551616) = _
  simp only [Bool.true_and, decide_eq_true_eq]
  split <;> omega
theorem i32_eq (n : Int) : IntKind.i32.wrap n = (n + 2147483648) % 4294967296 - 2147483648 := by
  show (if (true && decide (n % 4294967296 ≥ 2147483648)) = true then n % 4294967296 - 4294967296 else n % 4294967296) = _
  simp only [Bool.true_and, decide_eq_true_eq]
  split <;> omega
theorem i16_eq (n : Int) : IntKind.i16.wrap n = (n + 32768) % 65536 - 32768 := by
  show (if (true && decide (n % 65536 ≥ 32768)) = true then n % 65536 - 65536 else n % 65536) = _
  simp only [Bool.true_and, decide_eq_true_eq]
  split <;> omega
theorem i8_eq (n : Int) : IntKind.i8.wrap n = (n + 128) % 256 - 128 := by
  show (if (true && decide (n % 256 ≥ 128)) = true then n % 256 - 256 else n % 256) = _
  simp only [Bool.true_and, decide_eq_true_eq]
  split <;> omega
theorem u8_eq (n : Int) : IntKind.u8.wrap n = n % 256 := by
  show (if (false && decide (n % 256 ≥ 128)) = true then n % 256 - 256 else n % 256) = _
  simp
theorem u16_eq (n : Int) : IntKind.u16.wrap n = n % 65536 := by
  show (if (false && decide (n % 65536 ≥ 32768)) = true then n % 65536 - 65536 else n % 65536) = _
  simp
theorem u32_eq (n : Int) : IntKind.u32.wrap n = n % 4294967296 := by
  show (if (false && decide (n % 4294967296 ≥ 2147483648)) = true then n % 4294967296 - 4294967296 else n % 4294967296) = _
  simp
theorem u64_eq (n : Int) : IntKind.u64.wrap n = n % 18446744073709551616 := by
  show (if (false && decide (n % 18446744073709551616 ≥ 9223372036854775808)) = true then n % 18446744073709551616 - 18446744073709551616 else n % 18446744073709551616) = _
  simp
theorem w64 {n : Int} (h1 : -9223372036854775808 ≤ n) (h2 : n ≤ 9223372036854775807) : IntKind.i64.wrap n = n := by
  rw [i64_eq]; omega
end Go.Am

/-
  WALKING: words that every walk uses.
-/
namespace Go.Am
open Go
theorem br_pos {R : Type} {p : Prop} [Decidable p] {x y : Option R} (h : p) : br (decide p) x y = x := by rw [decide_eq_true h]; rfl
theorem br_neg {R : Type} {p : Prop} [Decidable p] {x y : Option R} (h : ¬ p) : br (decide p) x y = y := by rw [decide_eq_false h]; rfl
theorem nbr_pos {R : Type} {p : Prop} [Decidable p] {x y : Option R} (h : p) : br (!decide p) x y = y := by rw [decide_eq_true h]; rfl
theorem nbr_neg {R : Type} {p : Prop} [Decidable p] {x y : Option R} (h : ¬ p) : br (!decide p) x y = x := by rw [decide_eq_false h]; rfl
theorem br_t {R : Type} {x y : Option R} : br true x y = x := rfl
theorem br_f {R : Type} {x y : Option R} : br false x y = y := rfl
theorem wr1 (i : Nat) (h : i < 9223372036854775807) : IntKind.i64.wrap ((i : Int) + 1) = ((i + 1 : Nat) : Int) := by rw [w64 (by omega) (by omega)]; rfl
theorem wm1 (i : Nat) (h : i < 9223372036854775807) : IntKind.i64.wrap ((i : Int) - 1) = (i : Int) - 1 := w64 (by omega) (by omega)
theorem wm2 (i : Nat) (h : i < 9223372036854775807) : IntKind.i64.wrap ((i : Int) - 2) = (i : Int) - 2 := w64 (by omega) (by omega)
theorem tonat_sub (i k : Nat) : ((i : Int) - (k : Int)).toNat = i - k := by omega
theorem tonat_sub1 (i : Nat) : ((i : Int) - 1).toNat = i - 1 := by omega
theorem tonat_sub2 (i : Nat) : ((i : Int) - 2).toNat = i - 2 := by omega
theorem gdrop {α : Type} {l : List α} {i : Nat} {x : α} {r : List α} (h : l.drop i = x :: r) : l[i]? = some x ∧ l.drop (i + 1) = r ∧ i < l.length := by
  have h1 : (l.drop i)[0]? = some x := by rw [h]; rfl
  rw [List.getElem?_drop, Nat.add_zero] at h1
  refine ⟨h1, ?_, (List.getElem?_eq_some_iff.1 h1).1⟩
  rw [← List.drop_drop, h]
  rfl
theorem gdrop_nil {α : Type} {l : List α} {i : Nat} (h : l.drop i = []) : l.length ≤ i := List.drop_eq_nil_iff.1 h
end Go.Am

/-
  THE ABSTRACT MACHINE: the world has grown by blocks; one of them becomes a row.
-/
namespace Go.Am
open Go Go.RowKit

theorem below_heap {w w' : World} (hB : Below w.heap.size w w') {b : Nat} (hb : b < w.heap.size) : w'.heap[b]? = w.heap[b]? := hB.block b hb

theorem Inv.grown {T σ lm h ls ps} {w w' : World} (I : Inv T σ lm h ls ps w) (hB : Below w.heap.size w w') : Inv T σ lm h ls ps w' := {
  fixed := fun b o v e => by rw [below_cell hB (I.live b o (by rw [e]; simp))]; exact I.fixed b o v e
  spare := fun b o l j e => by
    have := I.live b o (by rw [e]; simp)
    rw [below_cell hB this, below_frozen hB this]; exact I.spare b o l j e
  live := fun b o e => Nat.lt_of_lt_of_le (I.live b o e) hB.size
  dom := I.dom
  var := fun c l hc => by
    obtain ⟨b, h1, h2, h3⟩ := I.var c l hc
    refine ⟨b, h1, Nat.lt_of_lt_of_le h2 hB.size, fun j av hj => ?_⟩
    obtain ⟨v, e1, e2, e3, e5⟩ := h3 j av hj
    exact ⟨v, by rw [below_cell hB h2]; exact e1, by rw [below_frozen hB h2]; exact e2, e3, e5⟩
  mem := fun c x hx => (I.mem c x hx).keep (fun _ h => h) (Fix.le.refl _)
    (fun b k e => by
      have hb : b < w.heap.size := I.live b k (by rw [e]; simp)
      exact ⟨e, below_cell hB hb, below_frozen hB hb⟩) (fun _ _ e => e)
  plen := I.plen
  loop := fun i r hr => by
    obtain ⟨b, rec, h1, h2, h3, h4⟩ := I.loop i r hr
    have hb : b < w.heap.size := I.live b 0 (by rw [h2]; simp)
    exact ⟨b, rec, h1, h2, by rw [hB.block b hb]; exact h3, h4⟩ }

theorem keeps_grown (T : Tags) {w w' : World} (hB : Below w.heap.size w w') : Keeps T w T w' :=
  ⟨hB.os, hB.tape, hB.output, hB.size, fun _ _ _ h => h, fun _ _ _ h => h, fun _ _ hb _ => ⟨below_cell hB hb, below_frozen hB hb⟩, fun b hb _ => hB.block b hb⟩

theorem get_app {α : Type} {l : List α} {x y : α} {c : Nat} (h : (l ++ [x])[c]? = some y) : (c ≠ l.length ∧ l[c]? = some y) ∨ (c = l.length ∧ y = x) := by
  by_cases hc : c < l.length
  · rw [List.getElem?_append_left hc] at h
    exact .inl ⟨by omega, h⟩
  · rw [List.getElem?_append_right (by omega)] at h
    cases e : c - l.length with
    | zero => rw [e] at h; exact .inr ⟨by omega, by cases h; rfl⟩
    | succ k => rw [e] at h; cases h

theorem Inv.dom_new {T σ lm h ls ps} {w : World} (I : Inv T σ lm h ls ps w) : σ h.length = none := by
  cases hs : σ h.length with
  | none => rfl
  | some b => obtain ⟨x, hl, _⟩ := I.dom _ b hs; simp at hl

def Tags.row (T : Tags) (g c n m : Nat) : Tags := fun b o => if b = g then (if o < n then .cell c o else if o < m then .spare (.leaf c 0) 0 else .free) else T b o

/-- A block that nobody has named becomes a row. -/
theorem Inv.newRow {T σ lm h ls ps} {w : World} (I : Inv T σ lm h ls ps w) {g : Nat} (hg : ∀ o, T g o = .free) {cells : Array Value} {t : TypeId} (hb : w.heap[g]? = some (.cells cells t (0, 0))) {e : Ty} (hw : 0 < e.width)
    {xs : List e.den} {C : Nat} (hC : xs.length ≤ C) (hCm : C ≤ maxLen) (hsz : cells.size = C * e.width)
    (hd : ∀ (i : Nat) x, xs[i]? = some x → ∃ ds, CellsD T.fix e x ds ∧ ∀ (j : Nat) v, ds[j]? = some v → cells[i * e.width + j]? = some v) :
    Inv (T.row g h.length (xs.length * e.width) (C * e.width)) (fun c => if c = h.length then some (g * rowM + C) else σ c) lm (h ++ [.row e xs]) ls ps w ∧
    Fix.le T.fix (T.row g h.length (xs.length * e.width) (C * e.width)).fix := by
  have hσ := I.dom_new
  have hCr : C < rowM := maxLen_lt hCm
  have hs' : ∀ c b, σ c = some b → (if c = h.length then some (g * rowM + C) else σ c) = some b := fun c b e => by
    by_cases hc : c = h.length
    · subst hc; rw [hσ] at e; cases e
    · rw [if_neg hc]; exact e
  have hcell : ∀ o, w.cell? ⟨g, o, none⟩ = cells[o]? := fun o => by simp [World.cell?, hb]
  have hfz : ∀ o, o < cells.size → w.frozen? ⟨g, o, none⟩ = false := fun o ho => by simp [World.frozen?, hb]
  have hne : ∀ b o, T b o ≠ .free → b ≠ g := fun b o e1 e2 => by subst e2; exact e1 (hg o)
  have hold : ∀ b o, b ≠ g → (T.row g h.length (xs.length * e.width) (C * e.width)) b o = T b o := fun b o hb => by unfold Tags.row; rw [if_neg hb]
  have hnew : ∀ o, (T.row g h.length (xs.length * e.width) (C * e.width)) g o = if o < xs.length * e.width then .cell h.length o else if o < C * e.width then .spare (.leaf h.length 0) 0 else .free := fun o => by unfold Tags.row; rw [if_pos rfl]
  have hfix : Fix.le T.fix (T.row g h.length (xs.length * e.width) (C * e.width)).fix := fun b o v hv => by
    rw [Tags.fix_eq] at hv ⊢
    have : b ≠ g := hne b o (by intro e; rw [e] at hv; cases hv)
    rw [hold b o this]; exact hv
  have hown : ∀ l j b o, T.own l j b o → (T.row g h.length (xs.length * e.width) (C * e.width)).own l j b o := fun l j b o hv => by
    unfold Tags.own at *
    rw [hold b o (hne b o (by rw [hv]; simp))]; exact hv
  have hmul : xs.length * e.width ≤ C * e.width := Nat.mul_le_mul_right _ hC
  refine ⟨⟨?_, ?_, ?_, ?_, ?_, ?_, ?_, ?_⟩, hfix⟩
  · intro b o v hv
    by_cases hbg : b = g
    · subst hbg; rw [hnew] at hv; split at hv
      · cases hv
      · split at hv <;> cases hv
    · rw [hold b o hbg] at hv; exact I.fixed b o v hv
  · intro b o l j hv
    by_cases hbg : b = g
    · subst hbg; rw [hnew] at hv; split at hv
      · cases hv
      · split at hv
        · rename_i ho
          rw [hcell]
          refine ⟨by rw [Array.getElem?_eq_getElem (by rw [hsz]; exact ho)]; rfl, hfz o (by rw [hsz]; exact ho)⟩
        · cases hv
    · rw [hold b o hbg] at hv; exact I.spare b o l j hv
  · intro b o hv
    by_cases hbg : b = g
    · subst hbg
      rcases Nat.lt_or_ge b w.heap.size with hlt | hge
      · exact hlt
      · rw [Array.getElem?_eq_none hge] at hb; cases hb
    · rw [hold b o hbg] at hv; exact I.live b o hv
  · intro c b hc
    by_cases hch : c = h.length
    · subst hch; exact ⟨.row e xs, by simp, rfl⟩
    · rw [if_neg hch] at hc
      obtain ⟨x, h1, h2⟩ := I.dom c b hc
      exact ⟨x, by rw [List.getElem?_append_left (get_lt h1)]; exact h1, h2⟩
  · intro c l hc
    rcases get_app hc with ⟨h1, h2⟩ | ⟨h1, h2⟩
    · obtain ⟨b, g1, g2, g3⟩ := I.var c l h2
      refine ⟨b, hs' c b g1, g2, fun j av hj => ?_⟩
      obtain ⟨v, e1, e2, e3, e4⟩ := g3 j av hj
      refine ⟨v, e1, e2, ?_, e4.mono hfix hs' (fun _ _ x => x) (hown _)⟩
      rw [hold b j (hne b j (by rw [e3]; simp))]; exact e3
    · cases h2
  · intro c x hc
    rcases get_app hc with ⟨h1, h2⟩ | ⟨h1, rfl⟩
    · exact (I.mem c x h2).keep (hs' c) hfix (fun b k e => ⟨by rw [hold b k (hne b k (by rw [e]; simp))]; exact e, rfl, rfl⟩) (fun b k e => by rw [hold b k (hne b k (by rw [e]; simp))]; exact e)
    · subst h1
      refine ⟨g * rowM + C, by simp, hw, by rw [rowC_mk _ _ hCr]; exact hC, by rw [rowC_mk _ _ hCr]; exact hCm, cells.toList.take (xs.length * e.width), by simp [hsz, hmul], ?_, ?_, ?_⟩
      · intro i x hi
        obtain ⟨ds, d1, d2⟩ := hd i x hi
        refine ⟨ds, d1.mono hfix, fun j v hj => ?_⟩
        have hjl := get_lt hj
        rw [d1.length] at hjl
        have := Nat.mul_le_mul_right e.width (show i + 1 ≤ xs.length by have := get_lt hi; omega)
        rw [Nat.add_mul] at this
        rw [List.getElem?_take_of_lt (by omega)]
        simpa using d2 j v hj
      · intro k v hk
        have hkl := get_lt hk
        simp only [List.length_take, Array.length_toList, hsz] at hkl
        rw [List.getElem?_take_of_lt (by omega)] at hk
        rw [rowB_mk _ _ hCr]
        refine ⟨by rw [hnew, if_pos (by omega)], ?_, hfz k (by omega)⟩
        rw [hcell]; simpa using hk
      · intro k k1 k2
        rw [rowC_mk _ _ hCr] at k2
        rw [rowB_mk _ _ hCr, hnew, if_neg (by omega), if_pos k2]
  · exact I.plen
  · intro i r hr
    obtain ⟨b, rec, g1, g2, g3, g4, g5, g6, g7, g8, g9, g10⟩ := I.loop i r hr
    exact ⟨b, rec, g1, by rw [hold b 0 (hne b 0 (by rw [g2]; simp))]; exact g2, g3, g4, g5, g6, g7, g8, fun t => (g9 t).mono hfix hs' (fun _ _ x => x) (fun _ _ _ x => x), g10⟩

theorem Inv.nilRow {T σ lm h ls ps} {w : World} (I : Inv T σ lm h ls ps w) {e : Ty} (hw : 0 < e.width) :
    Inv T (fun c => if c = h.length then some 0 else σ c) lm (h ++ [.row e []]) ls ps w := by
  have hσ := I.dom_new
  have hs' : ∀ c b, σ c = some b → (if c = h.length then some 0 else σ c) = some b := fun c b e => by
    by_cases hc : c = h.length
    · subst hc; rw [hσ] at e; cases e
    · rw [if_neg hc]; exact e
  refine ⟨I.fixed, I.spare, I.live, ?_, ?_, ?_, I.plen, ?_⟩
  · intro c b hc
    by_cases hch : c = h.length
    · subst hch; exact ⟨.row e [], by simp, rfl⟩
    · rw [if_neg hch] at hc
      obtain ⟨x, h1, h2⟩ := I.dom c b hc
      exact ⟨x, by rw [List.getElem?_append_left (get_lt h1)]; exact h1, h2⟩
  · intro c l hc
    rcases get_app hc with ⟨h1, h2⟩ | ⟨h1, h2⟩
    · obtain ⟨b, g1, g2, g3⟩ := I.var c l h2
      refine ⟨b, hs' c b g1, g2, fun j av hj => ?_⟩
      obtain ⟨v, e1, e2, e3, e4⟩ := g3 j av hj
      exact ⟨v, e1, e2, e3, e4.mono (Fix.le.refl _) hs' (fun _ _ x => x) (fun _ _ _ x => x)⟩
    · cases h2
  · intro c x hc
    rcases get_app hc with ⟨h1, h2⟩ | ⟨h1, rfl⟩
    · exact (I.mem c x h2).keep (hs' c) (Fix.le.refl _) (fun _ _ e => ⟨e, rfl, rfl⟩) (fun _ _ e => e)
    · subst h1
      exact ⟨0, by simp, hw, by simp, by simp [rowC], [], by simp, fun i x hi => by simp at hi, fun k v hk => by simp at hk, fun k _ k2 => by simp [rowC] at k2⟩
  · intro i r hr
    obtain ⟨b, rec, g1, g2, g3, g4, g5, g6, g7, g8, g9, g10⟩ := I.loop i r hr
    exact ⟨b, rec, g1, g2, g3, g4, g5, g6, g7, g8, fun t => (g9 t).mono (Fix.le.refl _) hs' (fun _ _ x => x) (fun _ _ _ x => x), g10⟩

/-- What is told of a function that is not walked reads the heap through this. -/
theorem Inv.rel {X : Ext} {T σ lm h ls ps} {w : World} (I : Inv T σ lm h ls ps w) (hg : GlobOk X T.fix) : Rel X T σ lm { fn := 0, base := h.length, nt := 0, loops := ls } none { tmps := [], heap := h, pend := ps } { tmps := #[], defers := [] } w :=
  ⟨I, rfl, rfl, fun t => by simp only [getT]; exact .top _ _, by simp, by simp, fun _ => rfl, hg⟩
end Go.Am

