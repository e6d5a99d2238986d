import Derived.Test.YtgjaamjbagoieaaBSlClone
set_option linter.unusedVariables false
set_option linter.unusedSimpArgs false
set_option linter.unnecessarySimpa false
/-
  slices.Clone, told as a row of its own: what the machine asks of it.
-/
namespace Go.Am
open Go Go.Proofs Go.RowKit Go.Lib Go.Shelf

theorem callsOk_fun {X : Ext} {g : FuncId} {fd : Func} {c : Code} {lm : Nat → Option Nat} {vs : List Value} {w : World} {K : Value → World → Prop} (hf : X.P.funcs[g]? = some fd) (hb : fd.body = some c)
    (h : Calls X.P g vs.toArray w fun e w' => ∃ u, e = .returned u ∧ K u w') : CallsOk X.P (.func g) lm vs w K := by
  refine ⟨fd, c, hf, hb, callsIn_wide.2 (h.mono ?_)⟩
  rintro e w' ⟨u, rfl, hk⟩
  exact hk

/-- What a slice of the caller's is, as the model has it. -/
theorem srcK_raw {X : Ext} {H : List Cell} {e : Ty} {y : AV} {R : Type} {k : List e.den → Option R} {r : R} (h : srcK H e y k = some r) :
    ∃ ys, k ys = some r ∧ ∀ {s : St} (_ : s.heap = H) {T : Tags} {σ lm : Nat → Option Nat} {A : Amb} {ro : Option Nat} {a : Act} {w : World} (_ : Rel X T σ lm A ro s a w) {ow : Own} {v : Value} (_ : Rep T.fix σ lm ow y v)
    (_ : 0 < e.width), ∃ css ad cap, v = .slice ad ys.length cap ∧ AllD T.fix e ys css ∧ (∀ a, ad = some a → ∀ j u, css.flatten[j]? = some u → w.cell? (a.add j) = some u) ∧ (ad = none → ys = []) := by
  unfold srcK at h
  split at h
  · rename_i c e' lo len
    split at h
    · rename_i he
      subst he
      split at h
      · rename_i cell hc
        obtain ⟨xs, hxs, h'⟩ := bind_some h
        clear h
        obtain rfl := asRow_some hxs
        rw [br_eq] at h'
        split at h'
        · rename_i hl
          simp only [decide_eq_true_eq] at hl
          refine ⟨_, h', fun {s} hsH {T σ lm A ro a w} hR {ow v} hv hw => ?_⟩
          cases hv with
          | hs _ _ _ _ _ _ hq =>
          obtain ⟨p, p1, p2, p3, ad, rfl, p5, p6⟩ := hq
          obtain ⟨css, h1, h2⟩ := hR.rowPart (by rw [hsH]; exact hc) p1 hl
          have hlen : ((xs.drop lo).take len).length = len := by simp; omega
          have hcl := h1.len
          rw [hlen] at hcl
          refine ⟨css, ad, _, by rw [hlen], h1, fun a ha j u hj => ?_, fun hn => ?_⟩
          · subst ha
            have hlt : 0 < len := by
              rcases Nat.eq_zero_or_pos len with h0 | h0
              · subst h0
                have := lt_of_get hj
                omega
              · exact h0
            have h5 := p5 (by omega)
            cases h5
            rw [add_none]; exact h2 j u hj
          · have := p6 hn
            apply List.eq_nil_of_length_eq_zero
            omega
        · cases h'
      · cases h
    · cases h
  · obtain ⟨ys, hys, h⟩ := bind_some h
    refine ⟨ys, h, fun {s} hsH {T σ lm A ro a w} hR {ow v} hv hw => ?_⟩
    unfold asRow at hys
    split at hys
    · cases hys
      cases hv
      exact ⟨[], none, 0, rfl, rfl, fun a ha => (by cases ha), fun _ => rfl⟩
    · rename_i own e' zs _
      split at hys
      · rename_i he; subst he
        cases hys
        cases hv with
        | slice _ _ _ _ ad cap hc hr ho =>
        obtain ⟨css, h1, h2⟩ := hr.all hw
        refine ⟨css, ad, cap, rfl, h1, fun a ha j u hj => ?_, fun hn => ?_⟩
        · obtain ⟨ad', e1, e2⟩ := h2 j u hj
          rw [ha] at e1; cases e1
          exact hR.fixedCell e2
        · have hl := h1.len
          have h0 : css.flatten = [] := by
            cases hq : css.flatten with
            | nil => rfl
            | cons c cs => obtain ⟨ad, e1, _⟩ := h2 0 c (by rw [hq]; rfl); rw [hn] at e1; cases e1
          rw [h0] at hl
          have hl' : zs.length * e'.width = 0 := by simpa using hl.symm
          rcases Nat.mul_eq_zero.1 hl' with hl | hl
          · exact List.eq_nil_of_length_eq_zero hl
          · omega
      · cases hys
    · cases hys

theorem clone_ok {X : Ext} {ρ : Ren} (L : SlLaysE0.n41 X.P ρ) {fd : Func} (hf : X.P.funcs[ρ.f 41]? = some fd) (hbs : fd.body.isSome = true) {e : Ty} {bb : Nat} (hinfo : ((X.P.info? (ρ.t 23)).map fun i => (i.zero.map fun z => z.cells.size, i.size, i.bytes)) = some (some e.width, e.width, bb))
    (hbb : bb * 8796093022208 ≤ 140737488355328) (hw : 0 < e.width) (z23 : ∀ w, (Go.sizeOf (ρ.t 23)).run X.P w = .ok e.width w) {R : Type} {args : List AV} {h : List Cell} {k : AV → List Cell → Option R} {r : R} (hr : (specClone e).run args h k = some r) :
    ∃ v h', k v h' = some r ∧ ∀ T σ lm ls ps w us, Inv T σ lm h ls ps w → GlobOk X T.fix → RepL T.fix σ lm args us → CallsOk X.P (.func (ρ.f 41)) lm us w (PostH T σ lm h ls w v h' ps) := by
  obtain ⟨c, hb⟩ := Option.isSome_iff_exists.1 hbs
  obtain ⟨i0, z, hi, hz0, hz1, hby, hzs⟩ : ∃ i0 z, X.P.info? (ρ.t 23) = some i0 ∧ i0.zero = some z ∧ i0.size = e.width ∧ i0.bytes * 8796093022208 ≤ 140737488355328 ∧ z.cells.size = e.width := by
    cases h0 : X.P.info? (ρ.t 23) with
    | none => rw [h0] at hinfo; cases hinfo
    | some i =>
      rw [h0] at hinfo
      simp only [Option.map_some, Option.some.injEq, Prod.mk.injEq] at hinfo
      obtain ⟨e1, e2, e3⟩ := hinfo
      cases h1 : i.zero with
      | none => rw [h1] at e1; cases e1
      | some z => rw [h1] at e1; exact ⟨i, z, rfl, h1, e2, by rw [e3]; exact hbb, by simpa using e1⟩
  unfold specClone at hr
  simp only at hr
  split at hr
  · rename_i v
    obtain ⟨xs, hx, hsrc⟩ := srcK_raw (X := X) hr
    clear hr
    rw [br_eq] at hx
    split at hx
    · rename_i hl
      simp only [decide_eq_true_eq] at hl
      refine ⟨_, _, hx, fun T σ lm ls ps w us I hg hv => ?_⟩
      have hlm : xs.length ≤ maxLen := Nat.le_trans hl (by decide)
      cases hv with
      | cons _ u _ _ hu t =>
      cases t
      obtain ⟨css, ad, cap, rfl, hall, hcell, hnil⟩ := hsrc rfl (I.rel (X := X) hg) hu hw
      have hcl := hall.len
      cases ad with
      | none =>
        obtain rfl := hnil rfl
        refine callsOk_fun (X := X) hf hb ((AnyE.slices_Clone_nil L 0 cap w).mono ?_)
        rintro e' w' ⟨rfl, rfl⟩
        refine ⟨_, rfl, T, _, Keeps.refl _ _, fun c hc b hσ => ?_, I.nilRow hw, ?_⟩
        · show (if c = h.length then some 0 else σ c) = some b
          rw [if_neg (by omega)]; exact hσ
        · refine .hs _ _ _ _ _ _ ⟨0, by simp, by simp [rowC], by simp [rowC], none, by simp [rowC], fun h0 => by simp [rowC] at h0, fun _ => by simp [rowC]⟩
      | some ad =>
        refine callsOk_fun (X := X) hf hb ((clone_any L i0 z e.width i0.bytes hi hz0 hz1 rfl hzs hw z23 ad xs.length cap css.flatten w hcl hlm (Nat.le_trans (by rw [Nat.mul_comm]; exact Nat.mul_le_mul_left _ hl) hby) (hcell ad rfl) hall.one).mono ?_)
        rintro e' w' ⟨v', rfl, ⟨_, hown⟩, hB⟩
        refine ⟨v', rfl, ?_⟩
        have I' := I.grown hB
        rcases hown with ⟨rfl, hn⟩ | ⟨g, C, cur, rfl, hge, hgw, hC, hCm, hcs, htk⟩
        · obtain rfl : xs = [] := List.eq_nil_of_length_eq_zero hn
          refine ⟨T, _, keeps_grown T hB, fun c hc b hσ => ?_, I'.nilRow hw, ?_⟩
          · show (if c = h.length then some 0 else σ c) = some b
            rw [if_neg (by omega)]; exact hσ
          · refine .hs _ _ _ _ _ _ ⟨0, by simp, by simp [rowC], by simp [rowC], none, by simp [rowC], fun h0 => by simp [rowC] at h0, fun _ => by simp [rowC]⟩
        · have hfree : ∀ o, T g o = .free := fun o => by
            cases ht : T g o with
            | free => rfl
            | _ => exact absurd (I.live g o (by rw [ht]; simp)) (by omega)
          obtain ⟨J, hfix⟩ := I'.newRow hfree hgw hw hC hCm hcs (xs := xs) fun i x hx => by
            obtain ⟨ds, d1, d2⟩ := hall.get i x hx
            refine ⟨ds, d1, fun j v hj => ?_⟩
            have := d2 j v hj
            rw [← htk, List.getElem?_take] at this
            split at this
            · simpa using this
            · cases this
          have hCr : C < rowM := maxLen_lt hCm
          refine ⟨_, _, { keeps_grown T hB with fixed := fun b o v hv => ?_, free := fun b o hb hv => ?_ }, fun c hc b hσ => ?_, J, ?_⟩
          · unfold Tags.row; rw [if_neg (by rintro rfl; rw [hfree] at hv; cases hv)]; exact hv
          · unfold Tags.row; rw [if_neg (by omega)]; exact hv
          · show (if c = h.length then some _ else σ c) = some b
            rw [if_neg (by omega)]; exact hσ
          · refine .hs _ _ _ _ _ _ ⟨g * rowM + C, by simp, by rw [rowC_mk _ _ hCr]; omega, by rw [rowC_mk _ _ hCr]; exact hCm, _, by rw [rowC_mk _ _ hCr]; rfl, fun _ => by rw [rowB_mk _ _ hCr]; simp, fun h0 => by cases h0⟩
    · cases hx
  · cases hr
end Go.Am
