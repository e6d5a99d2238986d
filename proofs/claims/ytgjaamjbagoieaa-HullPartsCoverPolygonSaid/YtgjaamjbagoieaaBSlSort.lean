import Derived.Test.YtgjaamjbagoieaaBSlClone2
import Derived.Shelf.SlSortCmp.NoneTotal
set_option linter.unusedVariables false
set_option linter.unusedSimpArgs false
set_option linter.unnecessarySimpa false
/-
  slices.SortFunc at pairs of ints, told: the row holds the sorted list.
-/
namespace Go.Am
open Go Go.Proofs Go.RowKit Go.Lib Go.Shelf Go.Sort
abbrev PtT : Ty := .pair (.int .i64) (.int .i64)
def specSort (e : Ty) (c : FuncId) (f : List e.den → List e.den) : SpecF where
  run := fun args h k => match args with
    | [.hs r e' 0 len, .func (.func c') [] []] => if e' = e ∧ c' = c then match h[r]? with
        | some cell => (cell.asRow e).bind fun xs => br (decide (len ≤ xs.length ∧ len < 4611686018427387904)) (k (.tuple []) (h.set r (.row e (f (xs.take len) ++ xs.drop len)))) none
        | none => none
      else none
    | _ => none

def encP (p : Int × Int) : List Value := [.int .i64 p.1, .int .i64 p.2]
theorem encP_cells (F : Fix) (p : Int × Int) : CellsD F PtT p (encP p) := ⟨_, _, rfl, rfl, rfl⟩
theorem cells_encP {F : Fix} {p : Int × Int} {ds : List Value} (h : CellsD F PtT p ds) : ds = encP p := by
  obtain ⟨a, b, rfl, h1, h2⟩ := h
  cases h1; cases h2; rfl

theorem below_grow (w : World) (os : Array Obj) : Below w.heap.size w (grow w os) :=
  ⟨rfl, rfl, rfl, by simp [grow], fun k hk => by simp only [grow]; rw [Array.getElem?_append_left hk]⟩

theorem setMany_all {F : Array Value} {vs : List Value} (h : vs.length = F.size) : setMany F 0 vs = vs.toArray := by
  refine ext_get! (by simp [h]) fun t ht => ?_
  rw [size_setMany] at ht
  rw [get_setMany vs 0 F t ht, if_pos ⟨Nat.zero_le _, by omega⟩]
  simp

theorem putRowK_cells {w : World} {blk : Nat} {d dk : Array (Int × Int)} (hH : HoldsK encP 2 w blk 0 d) (hs : dk.size = d.size) :
    putRowK encP 2 w blk 0 dk = w.setCells blk 0 (flatK encP 2 dk).toList := by
  have h := setCells_putRow w blk 0 (flatK encP 2 dk).toList 0 (flatK encP 2 d) (by simp [hs])
  rw [setMany_all (by simp [hs])] at h
  have h0 : putRow id w blk 0 (flatK encP 2 d) = w := putRowK_self encP 2 w blk 0 d hH
  rw [h0] at h
  unfold putRowK
  simpa using h.symm

theorem flat_get {d : Array (Int × Int)} {i j : Nat} {x : Int × Int} (hx : d[i]? = some x) {v : Value} (hv : (encP x)[j]? = some v) : (flatK encP 2 d)[i * 2 + j]? = some v := by
  have hj : j < 2 := get_lt hv
  have hi : i < d.size := by
    rcases Nat.lt_or_ge i d.size with h | h
    · exact h
    · rw [Array.getElem?_eq_none h] at hx; cases hx
  have e1 : (i * 2 + j) / 2 = i := by omega
  have e2 : (i * 2 + j) % 2 = j := by omega
  have hx' : d[i]! = x := by rw [getElem!_pos d i hi]; rw [Array.getElem?_eq_getElem hi] at hx; cases hx; rfl
  have hlt : i * 2 + j < d.size * 2 := by omega
  have h := get_flatK encP 2 d (i * 2 + j) hlt
  rw [e1, e2, hx'] at h
  rw [Array.getElem?_eq_getElem (by simpa using hlt)]
  rw [getElem!_pos _ _ (by simpa using hlt)] at h
  rw [h]
  rw [List.getElem!_eq_getElem?_getD, hv]; rfl

theorem sort_ok {X : Ext} {ρ : Ren} (L : SlLaysF0.n6 X.P ρ) {fd : Func} (hf : X.P.funcs[ρ.f 6]? = some fd) (hbs : fd.body.isSome = true) (aE : ∀ w, (isAgg (ρ.t 24)).run X.P w = .ok true w) (zE : ∀ w, (Go.sizeOf (ρ.t 24)).run X.P w = .ok 2 w)
    (cf : Int × Int → Int × Int → Int) (hO : SWO (ltOf cf)) (hT : ∀ x y, (ltOf cf) x y = false → (ltOf cf) y x = false → x = y) (c : FuncId) (eg : ∀ args w, (callFunc c args).run X.P w = .ok (.enter c args) w)
    (hcmp : ∀ blk off size w, CmpLays X.P c #[] encP 2 cf blk off size w) (f : List (Int × Int) → List (Int × Int)) (hfs : ∀ l, f l = l.mergeSort fun x y => !(ltOf cf) y x)
    {R : Type} {args : List AV} {h : List Cell} {k : AV → List Cell → Option R} {r : R} (hr : (specSort PtT c f).run args h k = some r) :
    ∃ v h', k v h' = some r ∧ ∀ T σ lm ls ps w us, Inv T σ lm h ls ps w → GlobOk X T.fix → RepL T.fix σ lm args us → CallsOk X.P (.func (ρ.f 6)) lm us w (PostH T σ lm h ls w v h' ps) := by
  obtain ⟨cd, hb⟩ := Option.isSome_iff_exists.1 hbs
  unfold specSort at hr
  simp only at hr
  split at hr
  · rename_i r0 e' len c'
    split at hr
    · rename_i he
      obtain ⟨rfl, rfl⟩ := he
      split at hr
      · rename_i cell hc
        obtain ⟨xs, hxs, hr'⟩ := bind_some hr
        clear hr
        obtain rfl := asRow_some hxs
        rw [br_eq] at hr'
        split at hr'
        · rename_i hl
          simp only [decide_eq_true_eq] at hl
          refine ⟨_, _, hr', fun T σ lm ls ps w us I hg hv => ?_⟩
          cases hv with
          | cons _ u1 _ _ hu1 t =>
          cases t with
          | cons _ u2 _ _ hu2 t =>
          cases t
          cases hu2 with
          | func _ _ _ _ va vb ha hb' =>
          cases ha; cases hb'
          cases hu1 with
          | hs _ _ _ _ _ _ hq =>
          obtain ⟨p, p1, p2, p3, ad, rfl, p5, p6⟩ := hq
          rcases Nat.eq_zero_or_pos len with h0 | h0
          · subst h0
            refine callsOk_fun (X := X) hf hb ((AnyF.slices_SortFunc_none L ad _ _ w).mono ?_)
            rintro e' w' ⟨rfl, rfl⟩
            refine ⟨_, rfl, T, σ, Keeps.refl _ _, fun c hc b hσ => hσ, ?_, .tuple _ [] [] (.nil _ _)⟩
            have e1 : h.set r0 (.row PtT (f (xs.take 0) ++ xs.drop 0)) = h := by
              rw [hfs]
              simp only [List.take_zero, List.mergeSort_nil, List.nil_append, List.drop_zero]
              exact List.ext_getElem? fun i => by
                rw [List.getElem?_set]
                split
                · rename_i hi; subst hi; split
                  · exact hc.symm
                  · rename_i hn; exact absurd (get_lt hc) hn
                · rfl
            rw [e1]; exact I
          · have hcp : 0 < rowC p := by omega
            obtain rfl := p5 hcp
            have hR := I.rel (X := X) hg
            obtain ⟨p', q1, q2, q3, q4, cs, q5, q6, q7, q8⟩ : RowAt T σ w r0 PtT xs := I.mem r0 _ hc
            rw [p1] at q1; cases q1
            have hds : (xs.take len).toArray.size = len := by simp; omega
            have hblk : rowB p < w.heap.size := by
              obtain ⟨ds, d1, d2⟩ := q6 0 xs[0] (List.getElem?_eq_getElem (by omega))
              obtain rfl := cells_encP d1
              have := d2 0 (.int .i64 (xs[0]).1) rfl
              exact I.live _ _ (by rw [(q7 _ _ this).1]; simp)
            have hH : HoldsK encP 2 w (rowB p) 0 (xs.take len).toArray := fun t ht => by
              rw [size_flatK, hds] at ht
              have hti : t / 2 < len := by omega
              have hx : xs[t / 2]? = some xs[t / 2] := List.getElem?_eq_getElem (by omega)
              obtain ⟨ds, d1, d2⟩ := q6 (t / 2) _ hx
              obtain rfl := cells_encP d1
              have hj : t % 2 < (encP xs[t / 2]).length := by simp [encP]; omega
              have h3 := d2 (t % 2) _ (List.getElem?_eq_getElem hj)
              have et : t / 2 * 2 + t % 2 = t := by omega
              have h4 := flat_get (d := (xs.take len).toArray) (i := t / 2) (j := t % 2) (x := xs[t / 2]) (by simp [hti, hx]) (List.getElem?_eq_getElem hj)
              have h5 := q7 _ _ h3
              rw [show (PtT.width) = 2 from rfl, et] at h5
              rw [et] at h4
              have h6 : (flatK encP 2 (xs.take len).toArray)[t]! = (encP xs[t / 2])[t % 2] := by
                rw [Array.getElem!_eq_getD, Array.getD_eq_getD_getElem?, h4]; rfl
              rw [h6, Nat.zero_add]
              exact ⟨h5.2.1, h5.2.2⟩
            have hcall := AnyQ.slices_SortFunc_total L 2 aE zE encP (fun _ => rfl) (fun x v hv => by simp [encP] at hv; rcases hv with rfl | rfl <;> rfl) cf hO c' #[] (rowB p) 0 (rowC p) (xs.take len).toArray w eg (hcmp _ _ _ _) hH hblk (by rw [hds]; omega) hT
            rw [hds] at hcall
            refine callsOk_fun (X := X) hf hb (hcall.mono ?_)
            rintro e' w' ⟨rfl, n, os, rfl⟩
            refine ⟨_, rfl, ?_⟩
            have hlen : ((xs.take len).toArray.toList.mergeSort fun x y => !(ltOf cf) y x) = f (xs.take len) := by rw [hfs]
            have hdk : (f (xs.take len)).length = len := by rw [hfs, List.length_mergeSort]; simp; omega
            rw [hlen]
            unfold sortWorldK
            rw [putRowK_cells (w := Sort.ahead w n) (d := (xs.take len).toArray) hH (by rw [hds]; simpa using hdk)]
            have I1 : Inv T σ lm h ls ps (Sort.ahead w n) := I.of_heap rfl
            have K1 : Keeps T w T (Sort.ahead w n) := ⟨rfl, rfl, rfl, Nat.le_refl _, fun _ _ _ h => h, fun _ _ _ h => h, fun _ _ _ _ => ⟨rfl, rfl⟩, fun _ _ _ => rfl⟩
            have hR1 := I1.rel (X := X) hg
            obtain ⟨K2, hR2⟩ := hR1.rowWrite (c := r0) (p := p) (e := PtT) (len := 0) (ys := f (xs.take len)) (vs := (flatK encP 2 (f (xs.take len)).toArray).toList) hc p1 (Nat.zero_le _) (by rw [hdk]; omega)
              (by simp [Ty.width]) (fun i y hy => ⟨encP y, encP_cells _ _, fun j v hv => by
                have := flat_get (d := (f (xs.take len)).toArray) (i := i) (j := j) (x := y) (by simpa using hy) hv
                simpa [Ty.width] using this⟩)
            have I2 := hR2.inv
            simp only [Nat.zero_mul, List.take_zero, List.nil_append, Nat.zero_add, hdk] at I2 K2
            have hB := below_grow ((Sort.ahead w n).setCells (rowB p) 0 (flatK encP 2 (f (xs.take len)).toArray).toList) os
            refine ⟨_, σ, (K1.trans K2).trans (keeps_grown _ hB), fun c hc b hσ => hσ, I2.grown hB, .tuple _ [] [] (.nil _ _)⟩
        · cases hr'
      · cases hr
    · cases hr
  · cases hr
end Go.Am
