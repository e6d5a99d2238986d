import Derived.Test.YtgjaamjbagoieaaBAmB
set_option linter.unusedVariables false
set_option linter.unusedSimpArgs false
set_option linter.unnecessarySimpa false
/-
  THE ABSTRACT MACHINE: what an operation needs is enough for it.
-/
namespace Go.Am
open Go
variable {R : Type} {X : Ext} {rec : Rec}

mutual
theorem ren_id : ∀ (v : AV), v.ren (fun c => c) = v
  | .ptr .. | .map .. | .hs .. | .rptr .. => rfl
  | .func fn a b => by simp only [AV.ren, renL_id a, renL_id b]
  | .iface t v => by simp only [AV.ren, ren_id v]
  | .agg l => by simp only [AV.ren, renL_id l]
  | .tuple l => by simp only [AV.ren, renL_id l]
  | .cptr l => by simp only [AV.ren, renL_id l]
  | .int .. | .bool .. | .str .. | .slice .. | .nil | .nilptr | .nilfunc | .nilmap | .niliface | .void | .top => rfl
theorem renL_id : ∀ (l : List AV), renL (fun c => c) l = l
  | [] => rfl
  | v :: l => by simp only [renL, ren_id v, renL_id l]
end

/-- The places that a value leads to are enough for it. -/
theorem Rep.cut {F F' : Fix} {σ σ' lm : Nat → Option Nat} (hf : F.le F') {ow ow' : Own} (ho : ∀ j b o, ow j b o → ow' j b o) {v : AV} {u : Value} (h : Rep F σ lm ow v u) (hc : ∀ c ∈ v.ptrs, ∀ b, σ c = some b → σ' c = some b) : Rep F' σ' lm ow' v u := by
  have := h.ren hf (fun c => c) ho hc
  rwa [ren_id] at this

/-! ### Masks -/
theorem maskL_get {α : Type} (f : Nat → Bool) (d : α) : ∀ (l : List α) (n i : Nat), (maskL f d n l)[i]? = (l[i]?).map fun x => if f (n + i) = true then x else d := by
  intro l
  induction l with
  | nil => intro n i; simp [maskL]
  | cons x l ih =>
    intro n i
    cases i with
    | zero => simp [maskL]
    | succ i => simp only [maskL, List.getElem?_cons_succ, ih]; rw [show n + 1 + i = n + (i + 1) by omega]
theorem maskL_length {α : Type} (f : Nat → Bool) (d : α) : ∀ (l : List α) (n : Nat), (maskL f d n l).length = l.length := by
  intro l
  induction l with
  | nil => intro n; rfl
  | cons x l ih => intro n; simp [maskL, ih]

theorem mask_in {α : Type} {cs : List Nat} {d : α} {l : List α} {i : Nat} (h : i ∈ cs) : (maskL (fun c => cs.contains c) d 0 l)[i]? = l[i]? := by
  rw [maskL_get]
  simp [h]
theorem mask_out {α : Type} {cs : List Nat} {d : α} {l : List α} {i : Nat} (h : i ∉ cs) : (maskL (fun c => cs.contains c) d 0 l)[i]? = (l[i]?).map fun _ => d := by
  rw [maskL_get]
  simp [h]
theorem getT_mask {ts : List Nat} {l : List AV} (t : Nat) : getT (maskL (fun t => ts.contains t) .top 0 l) t = if t ∈ ts then getT l t else .top := by
  unfold getT
  rw [List.getD_eq_getElem?_getD, List.getD_eq_getElem?_getD]
  split
  · rename_i h; rw [mask_in h]
  · rename_i h; rw [mask_out h]; cases l[t]? <;> rfl

/-! ### An effect, place by place -/
def tmpEff (e : Eff) (d : Option Tmp) (t : Nat) (x : Option AV) : Option AV :=
  let y := e.dulls.foldl (fun x u => if u = t then x.map AV.dull else x) x
  if d = some t then y.map (fun _ => e.val) else y
def heapEff (e : Eff) (c : Nat) (x : Option Cell) : Option Cell := e.writes.foldl (fun x p => if p.1 = c then x.map (fun _ => p.2) else x) x

theorem dullAll_get : ∀ (ds : List Tmp) (l : List AV) (t : Nat), (dullAll l ds)[t]? = ds.foldl (fun x u => if u = t then x.map AV.dull else x) (l[t]?) := by
  intro ds
  induction ds with
  | nil => intro l t; rfl
  | cons u ds ih =>
    intro l t
    simp only [dullAll, List.foldl_cons]
    rw [ih]
    congr 1
    rw [List.getElem?_set]
    by_cases h : u = t
    · subst h
      simp only [if_true]
      by_cases hl : u < l.length
      · rw [if_pos hl]; simp [getT, List.getD_eq_getElem?_getD, List.getElem?_eq_getElem hl]
      · rw [if_neg hl]; simp [List.getElem?_eq_none (Nat.le_of_not_lt hl)]
    · rw [if_neg h, if_neg h]
theorem on_tmps (e : Eff) (d : Option Tmp) (s : St) (ps : List (Option AE)) (t : Nat) : (e.on d s ps).tmps[t]? = tmpEff e d t (s.tmps[t]?) := by
  unfold Eff.on tmpEff
  cases d with
  | none => simp only [dullAll_get]; simp
  | some d =>
    simp only [Option.some.injEq]
    rw [List.getElem?_set, ← dullAll_get]
    by_cases h : d = t
    · subst h
      simp only [if_true]
      by_cases hl : d < (dullAll s.tmps e.dulls).length
      · rw [if_pos hl]; simp [List.getElem?_eq_getElem hl]
      · rw [if_neg hl]; simp [List.getElem?_eq_none (Nat.le_of_not_lt hl)]
    · rw [if_neg h, if_neg h]
theorem setAll_get : ∀ (ws : List (Nat × Cell)) (h : List Cell) (c : Nat), (setAll h ws)[c]? = ws.foldl (fun x p => if p.1 = c then x.map (fun _ => p.2) else x) (h[c]?) := by
  intro ws
  induction ws with
  | nil => intro h c; rfl
  | cons p ws ih =>
    intro h c
    obtain ⟨d, x⟩ := p
    simp only [setAll, List.foldl_cons]
    rw [ih]
    congr 1
    rw [List.getElem?_set]
    by_cases hd : d = c
    · subst hd
      simp only [if_true]
      by_cases hl : d < h.length
      · rw [if_pos hl]; simp [List.getElem?_eq_getElem hl]
      · rw [if_neg hl]; simp [List.getElem?_eq_none (Nat.le_of_not_lt hl)]
    · rw [if_neg hd, if_neg hd]
theorem on_heap (e : Eff) (d : Option Tmp) (s : St) (ps : List (Option AE)) (hg : e.grow = []) (c : Nat) : (e.on d s ps).heap[c]? = heapEff e c (s.heap[c]?) := by
  unfold Eff.on heapEff
  simp only [hg, List.append_nil]
  exact setAll_get _ _ _

theorem tmpEff_out {e : Eff} {d : Option Tmp} {t : Nat} (hd : d ≠ some t) (he : t ∉ e.dulls) (x : Option AV) : tmpEff e d t x = x := by
  unfold tmpEff
  simp only [if_neg hd]
  have : ∀ (l : List Tmp) (x : Option AV), t ∉ l → l.foldl (fun x u => if u = t then x.map AV.dull else x) x = x := by
    intro l
    induction l with
    | nil => intro x _; rfl
    | cons u l ih =>
      intro x h
      simp only [List.mem_cons, not_or] at h
      simp only [List.foldl_cons]
      rw [if_neg (fun e => h.1 e.symm), ih x h.2]
  exact this _ _ he
theorem heapEff_out {e : Eff} {c : Nat} (h : ∀ p ∈ e.writes, p.1 ≠ c) (x : Option Cell) : heapEff e c x = x := by
  unfold heapEff
  have : ∀ (l : List (Nat × Cell)) (x : Option Cell), (∀ p ∈ l, p.1 ≠ c) → l.foldl (fun x p => if p.1 = c then x.map (fun _ => p.2) else x) x = x := by
    intro l
    induction l with
    | nil => intro x _; rfl
    | cons u l ih =>
      intro x h
      simp only [List.foldl_cons]
      rw [if_neg (h u (by simp)), ih x fun p hp => h p (by simp [hp])]
  exact this _ _ h
theorem tmpEff_dst {e : Eff} {t : Nat} {x y : Option AV} (h : x.isSome = y.isSome) : tmpEff e (some t) t x = tmpEff e (some t) t y := by
  unfold tmpEff
  simp only [if_true]
  have : ∀ (l : List Tmp) (x y : Option AV), x.isSome = y.isSome → (l.foldl (fun x u => if u = t then x.map AV.dull else x) x).isSome = (l.foldl (fun x u => if u = t then x.map AV.dull else x) y).isSome := by
    intro l
    induction l with
    | nil => intro x y h; exact h
    | cons u l ih =>
      intro x y h
      simp only [List.foldl_cons]
      refine ih _ _ ?_
      split <;> simp [h]
  have := this e.dulls x y h
  cases h1 : e.dulls.foldl (fun x u => if u = t then x.map AV.dull else x) x <;> cases h2 : e.dulls.foldl (fun x u => if u = t then x.map AV.dull else x) y <;> rw [h1, h2] at this <;> simp at this ⊢

/-! ### The frame -/
def cutTag (ts cs : List Nat) : Tag → Tag
  | .spare (.tmp t) q => if t ∈ ts then .spare (.tmp t) q else .free
  | .spare (.leaf c j) q => if c ∈ cs then .spare (.leaf c j) q else .free
  | .cell c j => if c ∈ cs then .cell c j else .free
  | t => t
def cutTags (ts cs : List Nat) (T : Tags) : Tags := fun b o => cutTag ts cs (T b o)
theorem cutTag_or (ts cs : List Nat) (t : Tag) : cutTag ts cs t = t ∨ cutTag ts cs t = .free := by
  cases t with
  | cell c j => simp only [cutTag]; split <;> simp
  | spare l j => cases l <;> simp only [cutTag] <;> first | (split <;> simp) | simp
  | _ => exact .inl rfl
theorem cutTags_fix (ts cs : List Nat) (T : Tags) : (cutTags ts cs T).fix = T.fix := by
  funext b o
  unfold Tags.fix cutTags
  cases T b o with
  | cell c j => simp only [cutTag]; split <;> rfl
  | spare l j => cases l <;> simp only [cutTag] <;> first | (split <;> rfl) | rfl
  | _ => rfl
def cutσ (cs : List Nat) (σ : Nat → Option Nat) : Nat → Option Nat := fun c => if c ∈ cs then σ c else none

section
variable {T : Tags} {σ lm : Nat → Option Nat} {A : Amb} {ro : Option Nat} {s : St} {a : Act} {w : World} {ts cs : List Nat}

theorem within_mem (h : (s.restrict ts cs).within A cs = true) : (∀ t ∈ ts, ∀ p ∈ (getT s.tmps t).ptrs, p ∈ cs) ∧ (∀ r ∈ A.loops, ∀ p ∈ ptrsL r.tmps, p ∈ cs) ∧ (∀ c ∈ cs, ∀ x, s.heap[c]? = some x → ∀ p ∈ x.ptrs, p ∈ cs) := by
  unfold St.within at h
  rw [List.all_eq_true] at h
  have h' : ∀ c, (c ∈ ptrsL (s.restrict ts cs).tmps ∨ (∃ r ∈ A.loops, c ∈ ptrsL r.tmps) ∨ ∃ x ∈ (s.restrict ts cs).heap, c ∈ x.ptrs) → c ∈ cs := fun c hc => by
    have := h c (by
      simp only [List.mem_append, List.mem_flatMap]
      rcases hc with h | h | h
      · exact .inl (.inl h)
      · exact .inl (.inr h)
      · exact .inr h)
    simpa using this
  refine ⟨fun t ht p hp => h' p (.inl ?_), fun r hr p hp => h' p (.inr (.inl ⟨r, hr, hp⟩)), fun c hc x hx p hp => h' p (.inr (.inr ⟨x, ?_, hp⟩))⟩
  · have e : getT (s.restrict ts cs).tmps t = getT s.tmps t := by
      show getT (maskL _ _ 0 s.tmps) t = _
      rw [getT_mask, if_pos ht]
    rw [← e] at hp
    exact mem_getT hp
  · have : (s.restrict ts cs).heap[c]? = some x := by
      show (maskL _ _ 0 s.heap)[c]? = _
      rw [mask_in hc]; exact hx
    exact List.mem_of_getElem? this

theorem Rel.restrict (hR : Rel X T σ lm A ro s a w) (hw : (s.restrict ts cs).within A cs = true) : Rel X (cutTags ts cs T) (cutσ cs σ) lm A ro (s.restrict ts cs) a w := by
  obtain ⟨w1, w2, w3⟩ := within_mem hw
  have hσ : ∀ p ∈ cs, ∀ b, σ p = some b → cutσ cs σ p = some b := fun p hp b e => by unfold cutσ; rw [if_pos hp]; exact e
  have keep : ∀ b o, cutTags ts cs T b o ≠ .free → cutTags ts cs T b o = T b o := fun b o e => (cutTag_or ts cs (T b o)).resolve_right e
  refine ⟨⟨?_, ?_, ?_, ?_, ?_, ?_, hR.inv.plen, ?_⟩, ?_, hR.nt, ?_, ?_, hR.nodup, hR.round, by rw [cutTags_fix]; exact hR.glob⟩
  · intro b o v e; exact hR.inv.fixed b o v (by rw [← keep b o (by rw [e]; simp)]; exact e)
  · intro b o l j e; exact hR.inv.spare b o l j (by rw [← keep b o (by rw [e]; simp)]; exact e)
  · intro b o e; exact hR.inv.live b o (by rw [← keep b o e]; exact e)
  · intro c b e
    unfold cutσ at e
    split at e
    · rename_i hc
      obtain ⟨l, hl, hx⟩ := hR.inv.dom c b e
      exact ⟨l, by show (maskL _ _ 0 s.heap)[c]? = _; rw [mask_in hc]; exact hl, hx⟩
    · cases e
  · intro c l hc
    have hc' : (maskL (fun c => cs.contains c) Cell.empty 0 s.heap)[c]? = some (.var l) := hc
    have hm : c ∈ cs := Classical.byContradiction fun hm => by
      rw [mask_out hm] at hc'
      cases e : s.heap[c]? with
      | none => rw [e] at hc'; cases hc'
      | some x => rw [e] at hc'; cases hc'
    rw [mask_in hm] at hc'
    obtain ⟨b, h1, h2, h3⟩ := hR.inv.var c l hc'
    refine ⟨b, hσ c hm b h1, h2, fun j av hj => ?_⟩
    obtain ⟨v, e1, e2, e3, e4⟩ := h3 j av hj
    refine ⟨v, e1, e2, by unfold cutTags; rw [e3]; simp only [cutTag, if_pos hm], ?_⟩
    rw [cutTags_fix]
    refine e4.cut (Fix.le.refl _) (fun q b o e => ?_) fun p hp b' e => hσ p (w3 c hm _ hc' p (mem_ptrsL (List.mem_of_getElem? hj) hp)) b' e
    have e' : T b o = .spare (.leaf c j) q := e
    show cutTags ts cs T b o = _
    unfold cutTags; rw [e']; simp only [cutTag, if_pos hm]
  · intro c x hc
    have hc' : (maskL (fun c => cs.contains c) Cell.empty 0 s.heap)[c]? = some x := hc
    by_cases hm : c ∈ cs
    · rw [mask_in hm] at hc'
      refine (hR.inv.mem c x hc').keep (fun p e => hσ c hm p e) (by rw [cutTags_fix]; exact Fix.le.refl _) (fun b k e => ⟨?_, rfl, rfl⟩) fun b k e => ?_
      · unfold cutTags; rw [e]; simp only [cutTag, if_pos hm]
      · unfold cutTags; rw [e]; simp only [cutTag, if_pos hm]
    · rw [mask_out hm] at hc'
      cases e : s.heap[c]? with
      | none => rw [e] at hc'; cases hc'
      | some y => rw [e] at hc'; cases hc'; trivial
  · intro i r hr
    obtain ⟨b, rec, h1, h2, h3, h4, h5, h6, h7, h8, h9, h10⟩ := hR.inv.loop i r hr
    refine ⟨b, rec, h1, by unfold cutTags; rw [h2]; rfl, h3, h4, h5, h6, h7, h8, fun t => ?_, h10⟩
    rw [cutTags_fix]
    exact (h9 t).cut (Fix.le.refl _) (fun _ _ _ x => x) fun p hp b' e => hσ p (w2 r (List.mem_of_getElem? hr) p (mem_getT hp)) b' e
  · show (maskL _ _ 0 s.tmps).length = _
    rw [maskL_length]; exact hR.len
  · intro t
    show Rep _ _ _ _ (getT (maskL _ _ 0 s.tmps) t) _
    rw [getT_mask, cutTags_fix]
    split
    · rename_i ht
      refine (hR.tm t).cut (Fix.le.refl _) (fun q b o e => ?_) fun p hp b' e => hσ p (w1 t ht p hp) b' e
      have e' : T b o = .spare (.tmp t) q := e
      show cutTags ts cs T b o = _
      unfold cutTags; rw [e']; simp only [cutTag, if_pos ht]
    · exact .top _ _
  · intro d hd
    obtain ⟨D, e1, e2, e3⟩ := hR.marks d hd
    exact ⟨D, e1, e2, fun o => by unfold cutTags; rw [e3]; rfl⟩

end
end Go.Am

/-
  THE ABSTRACT MACHINE: from what an operation needs to the whole state.
-/
namespace Go.Am
open Go
variable {R : Type} {X : Ext} {rec : Rec}

theorem getT_eq {l m : List AV} {t : Nat} (h : l[t]? = m[t]?) : getT l t = getT m t := by
  unfold getT; rw [List.getD_eq_getElem?_getD, List.getD_eq_getElem?_getD, h]
theorem getD_put_ne {a : Act} {d : Option Tmp} {t : Nat} {v : Value} (h : d ≠ some t) : (a.put d v).tmps.getD t undef = a.tmps.getD t undef := by
  cases d with
  | none => rfl
  | some d =>
    simp only [Act.put, getD_set]
    rw [if_neg]
    rintro ⟨rfl, _⟩; exact h rfl
theorem defers_put (a : Act) (d : Option Tmp) (v : Value) : (a.put d v).defers = a.defers := by cases d <;> rfl
theorem size_put (a : Act) (d : Option Tmp) (v : Value) : (a.put d v).tmps.size = a.tmps.size := by cases d <;> simp [Act.put]

theorem StepTo.frame {T : Tags} {σ lm : Nat → Option Nat} {A : Amb} {ro : Option Nat} {s : St} {a : Act} {w w1 : World} {ts cs : List Nat} {d : Option Tmp} {e : Eff} {v : Value} (hR : Rel X T σ lm A ro s a w) (hg : e.grow = [])
    (hwr : ∀ p ∈ e.writes, p.1 ∈ cs) (hdl : ∀ t ∈ e.dulls, t ∈ ts)
    (h : StepTo X (cutTags ts cs T) (cutσ cs σ) lm A ro w (e.on d (s.restrict ts cs) s.pend) (a.put d v) w1) : StepTo X T σ lm A ro w (e.on d s s.pend) (a.put d v) w1 := by
  obtain ⟨T1, σ1, K, hσ, R1⟩ := h
  have hM : ∀ b o, (cutTags ts cs T b o).isFree = true → T b o ≠ .free → b < w.heap.size := fun b o _ e => hR.inv.live b o e
  have hfree : ∀ b o, (cutTags ts cs T b o).isFree = true → b < w.heap.size → T1 b o = .free := fun b o e hb => K.free b o hb (Tag.isFree_iff.1 e)
  let T' : Tags := fun b o => if (cutTags ts cs T b o).isFree = true ∧ b < w.heap.size then T b o else T1 b o
  have first : ∀ b o, (cutTags ts cs T b o).isFree = true → b < w.heap.size → T' b o = T b o := fun b o e hb => if_pos ⟨e, hb⟩
  have second : ∀ b o, T1 b o ≠ .free → T' b o = T1 b o := fun b o e => if_neg fun ⟨e1, e2⟩ => e (hfree b o e1 e2)
  have hfix1 : Fix.le T1.fix T'.fix := fun b o u e => by
    rw [Tags.fix_eq] at e ⊢
    rw [second b o (by rw [e]; simp)]; exact e
  have hfixT : ∀ b o u, T b o = .fixed u → T1 b o = .fixed u := fun b o u e => K.fixed b o u (by unfold cutTags; rw [e]; rfl)
  have hfix : Fix.le T.fix T'.fix := fun b o u e => by
    rw [Tags.fix_eq] at e
    exact hfix1 b o u (by rw [Tags.fix_eq]; exact hfixT b o u e)
  have hown1 : ∀ l j b o, T1.own l j b o → T'.own l j b o := fun l j b o e => by
    have e' : T1 b o = .spare l j := e
    show T' b o = _
    rw [second b o (by rw [e']; simp)]; exact e'
  have hfcell : ∀ b o, (cutTags ts cs T b o).isFree = true → b < w.heap.size → w1.cell? ⟨b, o, none⟩ = w.cell? ⟨b, o, none⟩ ∧ w1.frozen? ⟨b, o, none⟩ = w.frozen? ⟨b, o, none⟩ := fun b o e hb => K.cell b o hb (by rw [Tag.isFree_iff.1 e]; rfl)
  have hmine : ∀ b o, (T b o).mine = false → (cutTags ts cs T b o).mine = false := fun b o e => by
    rcases cutTag_or ts cs (T b o) with h | h
    · show (cutTag ts cs (T b o)).mine = false
      rw [h]; exact e
    · show (cutTag ts cs (T b o)).mine = false
      rw [h]; rfl
  let σ' : Nat → Option Nat := fun c => if c ∈ cs then σ1 c else σ c
  have hs : ∀ c b, σ c = some b → σ' c = some b := fun c b e => by
    show (if c ∈ cs then σ1 c else σ c) = some b
    split
    · rename_i hc; exact hσ c b (by unfold cutσ; rw [if_pos hc]; exact e)
    · exact e
  have hheap : ∀ c, c ∈ cs → (e.on d (s.restrict ts cs) s.pend).heap[c]? = (e.on d s s.pend).heap[c]? := fun c hc => by
    rw [on_heap e d _ _ hg, on_heap e d _ _ hg]
    congr 1
    exact mask_in hc
  have hheap2 : ∀ c, c ∉ cs → (e.on d s s.pend).heap[c]? = s.heap[c]? := fun c hc => by
    rw [on_heap e d _ _ hg]
    exact heapEff_out (c := c) (fun p hp e' => hc (by rw [← e']; exact hwr p hp)) _
  have hheap3 : ∀ c, c ∉ cs → (e.on d (s.restrict ts cs) s.pend).heap[c]? = (s.heap[c]?).map fun _ => Cell.empty := fun c hc => by
    rw [on_heap e d _ _ hg, heapEff_out (c := c) (fun p hp e' => hc (by rw [← e']; exact hwr p hp))]
    exact mask_out hc
  have hs1 : ∀ c b, σ1 c = some b → σ' c = some b := fun c b e => by
    show (if c ∈ cs then σ1 c else σ c) = some b
    rw [if_pos]; exact e
    refine Classical.byContradiction fun hc => ?_
    obtain ⟨l, hl, hlv⟩ := R1.inv.dom c b e
    rw [hheap3 c hc] at hl
    cases hx : s.heap[c]? <;> rw [hx] at hl <;> cases hl
    cases hlv
  refine ⟨T', σ', ?_, hs, ⟨⟨?_, ?_, ?_, ?_, ?_, ?_, R1.inv.plen, ?_⟩, ?_, ?_, ?_, ?_, ?_, hR.round, hR.glob.mono hfix⟩⟩
  · refine ⟨K.os, K.tape, K.output, K.size, fun b o u e => ?_, fun b o hb e => ?_, fun b o hb e => K.cell b o hb (hmine b o e), fun b hb e => K.block b hb fun o => hmine b o (e o)⟩
    · rw [← Tags.fix_eq] at e ⊢; exact hfix b o u e
    · rw [first b o (by unfold cutTags; rw [e]; rfl) hb]; exact e
  · intro b o u e'
    by_cases hc : (cutTags ts cs T b o).isFree = true ∧ b < w.heap.size
    · rw [first b o hc.1 hc.2] at e'
      have := hc.1
      unfold cutTags at this
      rw [e'] at this; cases this
    · exact R1.inv.fixed b o u (by have : T' b o = T1 b o := if_neg hc; rw [← this]; exact e')
  · intro b o l j e'
    by_cases hc : (cutTags ts cs T b o).isFree = true ∧ b < w.heap.size
    · rw [first b o hc.1 hc.2] at e'
      have hx := hfcell b o hc.1 hc.2
      rw [hx.1, hx.2]; exact hR.inv.spare b o l j e'
    · exact R1.inv.spare b o l j (by have : T' b o = T1 b o := if_neg hc; rw [← this]; exact e')
  · intro b o e'
    by_cases hc : (cutTags ts cs T b o).isFree = true ∧ b < w.heap.size
    · exact Nat.lt_of_lt_of_le hc.2 K.size
    · exact R1.inv.live b o (by have : T' b o = T1 b o := if_neg hc; rw [← this]; exact e')
  · intro c b e'
    have e'' : (if c ∈ cs then σ1 c else σ c) = some b := e'
    split at e''
    · rename_i hc
      obtain ⟨l, hl, hx⟩ := R1.inv.dom c b e''
      exact ⟨l, by rw [← hheap c hc]; exact hl, hx⟩
    · rename_i hc
      obtain ⟨l, hl, hx⟩ := hR.inv.dom c b e''
      exact ⟨l, by rw [hheap2 c hc]; exact hl, hx⟩
  · intro c l hc
    by_cases hm : c ∈ cs
    · obtain ⟨b, h1, h2, h3⟩ := R1.inv.var c l (by rw [hheap c hm]; exact hc)
      refine ⟨b, hs1 c b h1, h2, fun j av hj => ?_⟩
      obtain ⟨u, e1, e2, e3, e4⟩ := h3 j av hj
      exact ⟨u, e1, e2, by rw [second b j (by rw [e3]; simp)]; exact e3, e4.mono hfix1 hs1 (fun _ _ x => x) (hown1 _)⟩
    · rw [hheap2 c hm] at hc
      obtain ⟨b, h1, h2, h3⟩ := hR.inv.var c l hc
      refine ⟨b, hs c b h1, Nat.lt_of_lt_of_le h2 K.size, fun j av hj => ?_⟩
      obtain ⟨u, e1, e2, e3, e4⟩ := h3 j av hj
      have hf : (cutTags ts cs T b j).isFree = true := by unfold cutTags; rw [e3]; simp only [cutTag, if_neg hm]; rfl
      have hx := hfcell b j hf h2
      refine ⟨u, by rw [hx.1]; exact e1, by rw [hx.2]; exact e2, by rw [first b j hf h2]; exact e3, e4.mono hfix hs (fun _ _ x => x) fun q b' o' e' => ?_⟩
      have e'' : T b' o' = .spare (.leaf c j) q := e'
      show T' b' o' = _
      rw [first b' o' (by unfold cutTags; rw [e'']; simp only [cutTag, if_neg hm]; rfl) (hR.inv.live b' o' (by rw [e'']; simp))]; exact e''
  · intro c x hc
    by_cases hm : c ∈ cs
    · exact (R1.inv.mem c x (by rw [hheap c hm]; exact hc)).keep (hs1 c) hfix1 (fun b k e => ⟨by rw [second b k (by rw [e]; simp)]; exact e, rfl, rfl⟩) (fun b k e => by rw [second b k (by rw [e]; simp)]; exact e)
    · rw [hheap2 c hm] at hc
      refine (hR.inv.mem c x hc).keep (hs c) hfix (fun b k e => ?_) fun b k e => ?_
      · have hf : (cutTags ts cs T b k).isFree = true := by unfold cutTags; rw [e]; simp only [cutTag, if_neg hm]; rfl
        have hb := hR.inv.live b k (by rw [e]; simp)
        exact ⟨by rw [first b k hf hb]; exact e, hfcell b k hf hb⟩
      · rw [first b k (by unfold cutTags; rw [e]; simp only [cutTag, if_neg hm]; rfl) (hR.inv.live b k (by rw [e]; simp))]; exact e
  · intro i r hr
    obtain ⟨b, rec, h1, h2, h3, h4, h5, h6, h7, h8, h9, h10⟩ := R1.inv.loop i r hr
    exact ⟨b, rec, h1, by rw [second b 0 (by rw [h2]; simp)]; exact h2, h3, h4, h5, h6, h7, h8, fun t => (h9 t).mono hfix1 hs1 (fun _ _ x => x) (fun _ _ _ x => x), h10⟩
  · have h1 := R1.len
    have h2 : (e.on d (s.restrict ts cs) s.pend).tmps.length = (e.on d s s.pend).tmps.length := by
      have hd : ∀ (ds : List Tmp) (l : List AV), (dullAll l ds).length = l.length := by
        intro ds
        induction ds with
        | nil => intro l; rfl
        | cons t ds ih => intro l; simp [dullAll, ih]
      cases d <;> simp [Eff.on, hd, St.restrict, maskL_length]
    rw [← h2]; exact h1
  · rw [size_put]; exact hR.nt
  · intro t
    by_cases ht : t ∈ ts ∨ d = some t
    · have e1 : getT (e.on d (s.restrict ts cs) s.pend).tmps t = getT (e.on d s s.pend).tmps t := by
        apply getT_eq
        rw [on_tmps, on_tmps]
        by_cases hd : d = some t
        · subst hd
          refine tmpEff_dst ?_
          show ((maskL _ _ 0 s.tmps)[t]?).isSome = _
          rw [maskL_get]; simp
        · congr 1
          exact mask_in (ht.resolve_right hd)
      rw [← e1]
      exact (R1.tm t).mono hfix1 hs1 (fun _ _ x => x) (hown1 _)
    · have ht1 : t ∉ ts := fun h => ht (.inl h)
      have ht2 : d ≠ some t := fun h => ht (.inr h)
      have e1 : getT (e.on d s s.pend).tmps t = getT s.tmps t := by
        apply getT_eq
        rw [on_tmps]
        exact tmpEff_out ht2 (fun h => ht1 (hdl t h)) _
      rw [e1, getD_put_ne ht2]
      refine (hR.tm t).mono hfix hs (fun _ _ x => x) fun q b' o' e' => ?_
      have e'' : T b' o' = .spare (.tmp t) q := e'
      show T' b' o' = _
      rw [first b' o' (by unfold cutTags; rw [e'']; simp only [cutTag, if_neg ht1]; rfl) (hR.inv.live b' o' (by rw [e'']; simp))]; exact e''
  · intro x hx
    obtain ⟨D, e1, e2, e3⟩ := R1.marks x hx
    exact ⟨D, e1, e2, fun o => by rw [second D o (by rw [e3]; simp)]; exact e3 o⟩
  · exact R1.nodup

/-- What an operation needs is enough for it. -/
theorem StepOk.frame {A : Amb} {opsA : Array Oper} {s : St} {ts cs : List Nat} {d : Option Tmp} {e : Eff} {i : Nat} (hw : (s.restrict ts cs).within A cs = true) (hg : e.grow = [])
    (hwr : ∀ p ∈ e.writes, p.1 ∈ cs) (hdl : ∀ t ∈ e.dulls, t ∈ ts) (h : StepOk X A opsA (s.restrict ts cs) (e.on d (s.restrict ts cs) s.pend) i d) : StepOk X A opsA s (e.on d s s.pend) i d := by
  intro T σ lm ro a w hR K Q hn
  exact h _ _ lm ro a w (hR.restrict hw) K Q fun v w1 hs => hn v w1 (hs.frame hR hg hwr hdl)
end Go.Am

/-
  THE ABSTRACT MACHINE: a drawn region in any order.
-/
namespace Go.Am
open Go
variable {R : Type} {X : Ext} {rec : Rec}
set_option linter.unusedSectionVars false

def app1 (s : St) (p : Patch) : St := p.e.on p.dst s s.pend

def PatchOk (X : Ext) (A : Amb) (opsA : Array Oper) (s : St) (p : Patch) : Prop :=
  (s.restrict p.ts p.cs).within A p.cs = true ∧ p.e.grow = [] ∧ (∀ q ∈ p.e.writes, q.1 ∈ p.cs) ∧ (∀ t ∈ p.e.dulls, t ∈ p.ts) ∧ StepOk X A opsA (s.restrict p.ts p.cs) (p.e.on p.dst (s.restrict p.ts p.cs) s.pend) p.i p.dst

theorem stepDK_some (hX : XOk X) (hT : CallTOk X rec.callT) (hH : CallHOk X rec.callH) {A : Amb} {opsA : Array Oper} {hb i : Nat} {o : Oper} {s : St} {k : St → Patch → Option R} {r : R} (ho : opsA[i]? = some o)
    (h : stepDK X rec A opsA.toList hb i o s k = some r) : ∃ p, k (app1 s p) p = some r ∧ p.i = i ∧ PatchOk X A opsA s p := by
  unfold stepDK at h
  simp only at h
  split at h
  · rename_i hw
    obtain ⟨s1, e, h1, h2, h3⟩ := stepK_some hX hT hH ho h
    split at h1
    · rename_i hc
      obtain ⟨c1, c2, c3, c4⟩ := hc
      refine ⟨{ i := i, ts := looksT opsA.toList o, cs := footC X A opsA.toList hb i o s (looksT opsA.toList o), dst := o.dst, e := e.getD { val := .tuple [] } }, h1, rfl, hw, ?_, fun q hq => ?_, fun t ht => ?_, ?_⟩
      · exact List.isEmpty_iff.1 c2
      · rw [List.all_eq_true] at c3
        simpa using c3 q hq
      · rw [List.all_eq_true] at c4
        simpa using c4 t ht
      · rw [c1] at h3
        rw [h3] at h2
        exact h2
    · cases h1
  · cases h

theorem refineK_some {R : Type} {s : St} {t : Option Tmp} {k : St → Option R} {r : R} (h : refineK s t k = some r) : k s = some r := by
  cases t with
  | none => exact h
  | some t =>
    simp only [refineK] at h
    split at h
    · rename_i v hv
      have hs : ∀ b, b = v → ({ s with tmps := s.tmps.set t (.bool b) } : St) = s := fun b e => by rw [e, set_getT hv (by simp)]
      cases v with
      | true =>
        simp only [br] at h
        rw [hs true rfl] at h; exact h
      | false =>
        simp only [br] at h
        rw [hs false rfl] at h; exact h
    · exact h

theorem stepsDK_some (hX : XOk X) (hT : CallTOk X rec.callT) (hH : CallHOk X rec.callH) {A : Amb} {opsA : Array Oper} {hb : Nat} : ∀ {l : List (Nat × Oper)} {s : St} {acc : List Patch} {k : St → List Patch → Option R} {r : R},
    (∀ p ∈ l, opsA[p.1]? = some p.2) → stepsDK X rec A opsA.toList hb l s acc k = some r → ∃ ps, k (ps.foldl app1 s) (acc ++ ps) = some r ∧ ps.map (·.i) = l.map (·.1) ∧ ∀ (j : Nat) p, ps[j]? = some p → PatchOk X A opsA ((ps.take j).foldl app1 s) p := by
  intro l
  induction l with
  | nil =>
    intro s acc k r _ h
    exact ⟨[], by simpa [stepsDK] using h, rfl, fun j p hp => by simp at hp⟩
  | cons x l ih =>
    intro s acc k r hl h
    obtain ⟨i, o⟩ := x
    unfold stepsDK at h
    simp only [St.seq_eq] at h
    replace h := refineK_some h
    obtain ⟨p, h1, h2, h3⟩ := stepDK_some hX hT hH (hl (i, o) (by simp)) h
    obtain ⟨ps, h4, h5, h6⟩ := ih (fun p hp => hl p (by simp [hp])) h1
    refine ⟨p :: ps, by simpa using h4, by simp [h2, h5], fun j q hq => ?_⟩
    cases j with
    | zero => simp at hq; subst hq; simpa using h3
    | succ j => simpa using h6 j q (by simpa using hq)

/-! ### Folding what matters -/
theorem foldl_filter {V : Type} (f : Nat → V → V) (m : Nat → Bool) (h : ∀ i v, m i = false → f i v = v) : ∀ (L : List Nat) (v : V), L.foldl (fun v i => f i v) v = (L.filter m).foldl (fun v i => f i v) v := by
  intro L
  induction L with
  | nil => intro v; rfl
  | cons i L ih =>
    intro v
    cases hm : m i with
    | true => simp only [List.foldl_cons, List.filter_cons, hm, if_true]; exact ih _
    | false =>
      simp only [List.foldl_cons, List.filter_cons, hm, h i v hm]
      exact ih v

theorem sorted_ext : ∀ {l m : List Nat}, l.Pairwise (· < ·) → m.Pairwise (· < ·) → (∀ x, x ∈ l ↔ x ∈ m) → l = m := by
  intro l
  induction l with
  | nil =>
    intro m _ _ h
    cases m with
    | nil => rfl
    | cons y m => exact absurd ((h y).2 (by simp)) (by simp)
  | cons x l ih =>
    intro m hl hm h
    cases m with
    | nil => exact absurd ((h x).1 (by simp)) (by simp)
    | cons y m =>
      rw [List.pairwise_cons] at hl hm
      have hxy : x = y := by
        have h1 := (h x).1 (by simp)
        have h2 := (h y).2 (by simp)
        rcases List.mem_cons.1 h1 with e | h1
        · exact e
        · rcases List.mem_cons.1 h2 with e | h2
          · exact e.symm
          · have := hm.1 x h1; have := hl.1 y h2; omega
      subst hxy
      congr 1
      refine ih hl.2 hm.2 fun z => ⟨fun hz => ?_, fun hz => ?_⟩
      · rcases List.mem_cons.1 ((h z).1 (by simp [hz])) with e | h'
        · subst e; exact absurd (hl.1 z hz) (Nat.lt_irrefl _)
        · exact h'
      · rcases List.mem_cons.1 ((h z).2 (by simp [hz])) with e | h'
        · subst e; exact absurd (hm.1 z hz) (Nat.lt_irrefl _)
        · exact h'

/-! ### The order's bits -/
theorem befM_prefix : ∀ (l : List Oper) (acc : List Nat), ∃ m, befM acc l = acc ++ m ∧ m.length = l.length := by
  intro l
  induction l with
  | nil => intro acc; exact ⟨[], by simp [befM], rfl⟩
  | cons o l ih =>
    intro acc
    obtain ⟨m, h1, h2⟩ := ih (acc ++ [befOf acc o])
    exact ⟨befOf acc o :: m, by rw [befM, h1]; simp, by simp [h2]⟩
theorem befM_get : ∀ (l : List Oper) (acc : List Nat) (k : Nat) (o : Oper), l[k]? = some o → (befM acc l).getD (acc.length + k) 0 = befOf ((befM acc l).take (acc.length + k)) o := by
  intro l
  induction l with
  | nil => intro acc k o h; simp at h
  | cons x l ih =>
    intro acc k o h
    cases k with
    | zero =>
      simp at h; subst h
      obtain ⟨m, h1, h2⟩ := befM_prefix l (acc ++ [befOf acc x])
      rw [befM, h1]
      simp [List.getD_eq_getElem?_getD, List.take_append]
    | succ k =>
      have := ih (acc ++ [befOf acc x]) k o (by simpa using h)
      rw [befM]
      simp only [List.length_append, List.length_cons, List.length_nil] at this
      rw [show acc.length + (k + 1) = acc.length + (0 + 1) + k by omega]
      exact this

def Bef (ops : List Oper) (i j : Nat) : Prop := ((befM [] ops).getD i 0).testBit j = true

theorem befOf_bit {acc : List Nat} {o : Oper} {j : Nat} (h : (befOf acc o).testBit j = true) : ∃ e ∈ o.after, Region.binds .any e = true ∧ (j = e.on ∨ (acc.getD e.on 0).testBit j = true) := by
  unfold befOf at h
  have : ∀ (l : List Edge) (s : Nat), (l.foldl (fun s e => if Region.binds .any e = true then s ||| 2 ^ e.on ||| acc.getD e.on 0 else s) s).testBit j = true →
      s.testBit j = true ∨ ∃ e ∈ l, Region.binds .any e = true ∧ (j = e.on ∨ (acc.getD e.on 0).testBit j = true) := by
    intro l
    induction l with
    | nil => intro s h; exact .inl h
    | cons e l ih =>
      intro s h
      simp only [List.foldl_cons] at h
      rcases ih _ h with h | ⟨e', h1, h2⟩
      · split at h
        · rename_i hb
          rw [Nat.testBit_or, Nat.testBit_or, Bool.or_eq_true, Bool.or_eq_true] at h
          rcases h with (h | h) | h
          · exact .inl h
          · refine .inr ⟨e, by simp, hb, .inl ?_⟩
            rw [Nat.testBit_two_pow] at h
            simpa using (of_decide_eq_true h).symm
          · exact .inr ⟨e, by simp, hb, .inr h⟩
        · exact .inl h
      · exact .inr ⟨e', by simp [h1], h2⟩
  rcases this o.after.toList 0 h with h | ⟨e, h1, h2⟩
  · simp at h
  · exact ⟨e, by simpa using h1, h2⟩

theorem bef_step {ops : List Oper} {i j : Nat} (h : Bef ops i j) : ∃ o, ops[i]? = some o ∧ ∃ e ∈ o.after, Region.binds .any e = true ∧ (j = e.on ∨ Bef ops e.on j) := by
  unfold Bef at h
  cases ho : ops[i]? with
  | none =>
    obtain ⟨m, h1, h2⟩ := befM_prefix ops []
    have : (befM [] ops)[i]? = none := by
      rw [h1]
      rw [List.getElem?_eq_none_iff] at ho ⊢
      simp; omega
    rw [List.getD_eq_getElem?_getD, this] at h
    simp at h
  | some o =>
    refine ⟨o, rfl, ?_⟩
    have hg := befM_get ops [] i o ho
    simp only [List.length_nil, Nat.zero_add] at hg
    rw [hg] at h
    obtain ⟨e, h1, h2, h3⟩ := befOf_bit h
    refine ⟨e, h1, h2, ?_⟩
    rcases h3 with h3 | h3
    · exact .inl h3
    · right
      unfold Bef
      rw [List.getD_eq_getElem?_getD, List.getElem?_take] at h3
      split at h3
      · rw [List.getD_eq_getElem?_getD]; exact h3
      · simp at h3

/-! ### States after a row of operations -/
def appI (ps : List Patch) (s : St) (i : Nat) : St := match ps[i]? with
  | some p => app1 s p
  | none => s
def appL (ps : List Patch) (L : List Nat) (s : St) : St := L.foldl (appI ps) s
def fT (ps : List Patch) (t i : Nat) (v : Option AV) : Option AV := match ps[i]? with
  | some p => tmpEff p.e p.dst t v
  | none => v
def fC (ps : List Patch) (c i : Nat) (v : Option Cell) : Option Cell := match ps[i]? with
  | some p => heapEff p.e c v
  | none => v
def mT (ps : List Patch) (t i : Nat) : Bool := match ps[i]? with
  | some p => p.modT.contains t
  | none => false
def mC (ps : List Patch) (c i : Nat) : Bool := match ps[i]? with
  | some p => p.modC.contains c
  | none => false

theorem fT_id {ps : List Patch} {t i : Nat} (v : Option AV) (h : mT ps t i = false) : fT ps t i v = v := by
  unfold mT at h; unfold fT
  split at h
  · rename_i p hp
    simp only [Patch.modT, List.contains_eq_mem, List.mem_append, decide_eq_false_iff_not, not_or] at h
    exact tmpEff_out (fun e => h.1 (by simp [e])) h.2 v
  · rfl
theorem fC_id {ps : List Patch} {c i : Nat} (v : Option Cell) (h : mC ps c i = false) : fC ps c i v = v := by
  unfold mC at h; unfold fC
  split at h
  · rename_i p hp
    simp only [Patch.modC, List.contains_eq_mem, decide_eq_false_iff_not] at h
    exact heapEff_out (fun q hq e => h (List.mem_map.2 ⟨q, hq, e⟩)) v
  · rfl

theorem dullAll_length : ∀ (ds : List Tmp) (l : List AV), (dullAll l ds).length = l.length := by
  intro ds
  induction ds with
  | nil => intro l; rfl
  | cons t ds ih => intro l; simp [dullAll, ih]

section
variable {ps : List Patch} (hg : ∀ p ∈ ps, p.e.grow = [])
include hg
theorem app1_shape {p : Patch} (hp : p ∈ ps) (s : St) : (app1 s p).pend = s.pend ∧ (app1 s p).tmps.length = s.tmps.length ∧ (app1 s p).heap.length = s.heap.length := by
  refine ⟨rfl, ?_, ?_⟩
  · unfold app1 Eff.on
    cases p.dst <;> simp [dullAll_length]
  · unfold app1 Eff.on
    simp [hg p hp, setAll_length]
theorem appL_shape : ∀ (L : List Nat) (s : St), (appL ps L s).pend = s.pend ∧ (appL ps L s).tmps.length = s.tmps.length ∧ (appL ps L s).heap.length = s.heap.length := by
  intro L
  induction L with
  | nil => intro s; exact ⟨rfl, rfl, rfl⟩
  | cons i L ih =>
    intro s
    have h := ih (appI ps s i)
    have h1 : (appI ps s i).pend = s.pend ∧ (appI ps s i).tmps.length = s.tmps.length ∧ (appI ps s i).heap.length = s.heap.length := by
      unfold appI
      split
      · rename_i p hp; exact app1_shape hg (List.mem_of_getElem? hp) s
      · exact ⟨rfl, rfl, rfl⟩
    exact ⟨h.1.trans h1.1, h.2.1.trans h1.2.1, h.2.2.trans h1.2.2⟩
theorem appL_tmp (t : Nat) : ∀ (L : List Nat) (s : St), (appL ps L s).tmps[t]? = L.foldl (fun v i => fT ps t i v) (s.tmps[t]?) := by
  intro L
  induction L with
  | nil => intro s; rfl
  | cons i L ih =>
    intro s
    have h := ih (appI ps s i)
    simp only [List.foldl_cons]
    have e : (appI ps s i).tmps[t]? = fT ps t i (s.tmps[t]?) := by
      unfold appI fT
      split
      · exact on_tmps _ _ _ _ _
      · rfl
    rw [← e]; exact h
theorem appL_heap (c : Nat) : ∀ (L : List Nat) (s : St), (appL ps L s).heap[c]? = L.foldl (fun v i => fC ps c i v) (s.heap[c]?) := by
  intro L
  induction L with
  | nil => intro s; rfl
  | cons i L ih =>
    intro s
    have h := ih (appI ps s i)
    simp only [List.foldl_cons]
    have e : (appI ps s i).heap[c]? = fC ps c i (s.heap[c]?) := by
      unfold appI fC
      split
      · rename_i p hp; exact on_heap _ _ _ _ (hg p (List.mem_of_getElem? hp)) _
      · rfl
    rw [← e]; exact h
end

theorem appL_range {ps : List Patch} : ∀ (k : Nat), k ≤ ps.length → ∀ (s : St), appL ps (List.range k) s = (ps.take k).foldl app1 s := by
  intro k
  induction k with
  | zero => intro _ s; simp [appL]
  | succ k ih =>
    intro hk s
    have h := ih (by omega) s
    rw [List.range_succ, List.take_add_one]
    unfold appL at h ⊢
    rw [List.foldl_append, h, List.foldl_append]
    rw [List.getElem?_eq_getElem (show k < ps.length by omega)]
    simp [appI, List.getElem?_eq_getElem (show k < ps.length by omega)]

theorem disj_not {a b : List Nat} (h : disj a b = true) {x : Nat} (h1 : x ∈ a) (h2 : x ∈ b) : False := by
  unfold disj at h
  rw [List.all_eq_true] at h
  have := h x h1
  simp [h2] at this

theorem mT_some {ps : List Patch} {t i : Nat} (h : mT ps t i = true) : ∃ p, ps[i]? = some p ∧ t ∈ p.modT := by
  unfold mT at h
  split at h
  · rename_i p hp; exact ⟨p, hp, by simpa using h⟩
  · cases h
theorem mC_some {ps : List Patch} {c i : Nat} (h : mC ps c i = true) : ∃ p, ps[i]? = some p ∧ c ∈ p.modC := by
  unfold mC at h
  split at h
  · rename_i p hp; exact ⟨p, hp, by simpa using h⟩
  · cases h

structure Good (ops : List Oper) (ps : List Patch) (L : List Nat) : Prop where
  nodup : L.Nodup
  lt : ∀ i ∈ L, i < ops.length
  clos : ∀ i ∈ L, ∀ j, Bef ops i j → j ∈ L
  tmp : ∀ t, (L.filter (mT ps t)).Pairwise (· < ·)
  heap : ∀ c, (L.filter (mC ps c)).Pairwise (· < ·)

theorem Good.nil {ops : List Oper} {ps : List Patch} : Good ops ps [] := ⟨List.nodup_nil, (fun i h => by cases h), (fun i h => by cases h), (fun t => by simp), (fun c => by simp)⟩

structure Free (ops : List Oper) (ps : List Patch) : Prop where
  edge : ∀ (i : Nat) o, ops[i]? = some o → ∀ e ∈ o.after, Region.binds .any e = true → e.on < i
  apart : ∀ (i j : Nat) p q, i < j → ps[i]? = some p → ps[j]? = some q → Bef ops j i ∨ (apart1 p q = true ∧ apart1 q p = true)

theorem freeOrder_some {ops : List Oper} {ps : List Patch} (h : freeOrder ops ps = true) : Free ops ps := by
  unfold freeOrder at h
  simp only [Bool.and_eq_true, List.all_eq_true] at h
  obtain ⟨h1, h2⟩ := h
  refine ⟨fun i o ho e he hbd => ?_, fun i j p q hij hp hq => ?_⟩
  · have := h1 (o, i) (List.mem_zipIdx_iff_getElem?.2 ho) e (by simpa using he)
    simpa [hbd] using this
  · have := h2 (q, j) (List.mem_zipIdx_iff_getElem?.2 hq) (p, i) (List.mem_zipIdx_iff_getElem?.2 hp)
    simp only [Bool.or_eq_true, Bool.not_eq_true', decide_eq_false_iff_not, Bool.and_eq_true] at this
    rcases this with (h | h) | h
    · exact absurd hij h
    · exact .inl h
    · exact .inr h

section
variable {ops : List Oper} {ps : List Patch} {L : List Nat} {k : Nat} {pk : Patch} (hf : Free ops ps) (hw : ∀ p ∈ ps, ∀ q ∈ p.e.writes, q.1 ∈ p.cs) (hL : Good ops ps L) (hk : k ∉ L) (hpk : ps[k]? = some pk) (hpre : ∀ j, Bef ops k j → j ∈ L)
include hf hw hL hk hpk hpre

theorem modC_cs {p : Patch} (hp : p ∈ ps) {c : Nat} (hc : c ∈ p.modC) : c ∈ p.cs := by
  obtain ⟨q, h1, rfl⟩ := List.mem_map.1 hc
  exact hw p hp q h1

theorem tmp_lt {t : Nat} (ht : t ∈ pk.ts ++ pk.modT) {i : Nat} (hi : i ∈ L) (hm : mT ps t i = true) : i < k := by
  rcases Nat.lt_trichotomy i k with h | h | h
  · exact h
  · subst h; exact absurd hi hk
  · obtain ⟨p, hp, hpm⟩ := mT_some hm
    rcases hf.apart k i pk p h hpk hp with hb | ⟨_, hb⟩
    · exact absurd (hL.clos i hi k hb) hk
    · simp only [apart1, Bool.and_eq_true] at hb
      exact (disj_not hb.1 hpm ht).elim
theorem tmp_mem {t : Nat} (ht : t ∈ pk.ts ++ pk.modT) {i : Nat} (hi : i < k) (hm : mT ps t i = true) : i ∈ L := by
  obtain ⟨p, hp, hpm⟩ := mT_some hm
  rcases hf.apart i k p pk hi hp hpk with hb | ⟨hb, _⟩
  · exact hpre i hb
  · simp only [apart1, Bool.and_eq_true] at hb
    exact (disj_not hb.1 hpm ht).elim
theorem heap_lt {c : Nat} (ht : c ∈ pk.cs) {i : Nat} (hi : i ∈ L) (hm : mC ps c i = true) : i < k := by
  rcases Nat.lt_trichotomy i k with h | h | h
  · exact h
  · subst h; exact absurd hi hk
  · obtain ⟨p, hp, hpm⟩ := mC_some hm
    rcases hf.apart k i pk p h hpk hp with hb | ⟨_, hb⟩
    · exact absurd (hL.clos i hi k hb) hk
    · simp only [apart1, Bool.and_eq_true] at hb
      exact (disj_not hb.2 hpm ht).elim
theorem heap_mem {c : Nat} (ht : c ∈ pk.cs) {i : Nat} (hi : i < k) (hm : mC ps c i = true) : i ∈ L := by
  obtain ⟨p, hp, hpm⟩ := mC_some hm
  rcases hf.apart i k p pk hi hp hpk with hb | ⟨hb, _⟩
  · exact hpre i hb
  · simp only [apart1, Bool.and_eq_true] at hb
    exact (disj_not hb.2 hpm ht).elim

theorem Good.push (hlt : k < ops.length) : Good ops ps (L ++ [k]) := {
  nodup := by
    rw [List.nodup_append]
    refine ⟨hL.nodup, by simp, fun a ha b hb e => ?_⟩
    simp at hb; subst hb; subst e; exact hk ha
  lt := fun i hi => by
    rcases List.mem_append.1 hi with h | h
    · exact hL.lt i h
    · simp at h; subst h; exact hlt
  clos := fun i hi j hb => by
    rcases List.mem_append.1 hi with h | h
    · exact List.mem_append.2 (.inl (hL.clos i h j hb))
    · simp at h; subst h; exact List.mem_append.2 (.inl (hpre j hb))
  tmp := fun t => by
    rw [List.filter_append, List.pairwise_append]
    refine ⟨hL.tmp t, by rw [List.filter_cons]; split <;> simp, fun i hi j hj => ?_⟩
    rw [List.mem_filter] at hi hj
    obtain ⟨hj1, hj2⟩ := hj
    simp at hj1; subst hj1
    obtain ⟨p, hp, hpm⟩ := mT_some hj2
    rw [hpk] at hp; cases hp
    exact tmp_lt hf hw hL hk hpk hpre (List.mem_append.2 (.inr hpm)) hi.1 hi.2
  heap := fun c => by
    rw [List.filter_append, List.pairwise_append]
    refine ⟨hL.heap c, by rw [List.filter_cons]; split <;> simp, fun i hi j hj => ?_⟩
    rw [List.mem_filter] at hi hj
    obtain ⟨hj1, hj2⟩ := hj
    simp at hj1; subst hj1
    obtain ⟨p, hp, hpm⟩ := mC_some hj2
    rw [hpk] at hp; cases hp
    exact heap_lt hf hw hL hk hpk hpre (modC_cs hf hw hL hk hpk hpre (List.mem_of_getElem? hpk) hpm) hi.1 hi.2 }

theorem tmp_same {t : Nat} (ht : t ∈ pk.ts) : L.filter (mT ps t) = (List.range k).filter (mT ps t) := by
  refine sorted_ext (hL.tmp t) (List.Pairwise.filter _ List.pairwise_lt_range) fun i => ?_
  rw [List.mem_filter, List.mem_filter, List.mem_range]
  have ht' : t ∈ pk.ts ++ pk.modT := List.mem_append.2 (.inl ht)
  exact ⟨fun h => ⟨tmp_lt hf hw hL hk hpk hpre ht' h.1 h.2, h.2⟩, fun h => ⟨tmp_mem hf hw hL hk hpk hpre ht' h.1 h.2, h.2⟩⟩
theorem heap_same {c : Nat} (ht : c ∈ pk.cs) : L.filter (mC ps c) = (List.range k).filter (mC ps c) := by
  refine sorted_ext (hL.heap c) (List.Pairwise.filter _ List.pairwise_lt_range) fun i => ?_
  rw [List.mem_filter, List.mem_filter, List.mem_range]
  exact ⟨fun h => ⟨heap_lt hf hw hL hk hpk hpre ht h.1 h.2, h.2⟩, fun h => ⟨heap_mem hf hw hL hk hpk hpre ht h.1 h.2, h.2⟩⟩

theorem restrict_same (hg : ∀ p ∈ ps, p.e.grow = []) (s : St) : (appL ps L s).restrict pk.ts pk.cs = (appL ps (List.range k) s).restrict pk.ts pk.cs := by
  obtain ⟨a1, a2, a3⟩ := appL_shape hg L s
  obtain ⟨b1, b2, b3⟩ := appL_shape hg (List.range k) s
  unfold St.restrict
  congr 1
  · apply List.ext_getElem?
    intro t
    by_cases ht : t ∈ pk.ts
    · rw [mask_in ht, mask_in ht, appL_tmp hg, appL_tmp hg, foldl_filter _ (mT ps t) (fun i v h => fT_id v h), foldl_filter _ (mT ps t) (fun i v h => fT_id v h) (List.range k), tmp_same hf hw hL hk hpk hpre ht]
    · rw [mask_out ht, mask_out ht]
      rcases Nat.lt_or_ge t s.tmps.length with h | h
      · rw [List.getElem?_eq_getElem (by omega), List.getElem?_eq_getElem (by omega)]; rfl
      · rw [List.getElem?_eq_none (by omega), List.getElem?_eq_none (by omega)]
  · apply List.ext_getElem?
    intro c
    by_cases ht : c ∈ pk.cs
    · rw [mask_in ht, mask_in ht, appL_heap hg, appL_heap hg, foldl_filter _ (mC ps c) (fun i v h => fC_id v h), foldl_filter _ (mC ps c) (fun i v h => fC_id v h) (List.range k), heap_same hf hw hL hk hpk hpre ht]
    · rw [mask_out ht, mask_out ht]
      rcases Nat.lt_or_ge c s.heap.length with h | h
      · rw [List.getElem?_eq_getElem (by omega), List.getElem?_eq_getElem (by omega)]; rfl
      · rw [List.getElem?_eq_none (by omega), List.getElem?_eq_none (by omega)]
  · rw [a1, b1]
end

theorem appL_all {ops : List Oper} {ps : List Patch} {L : List Nat} (hL : Good ops ps L) (hall : ∀ i < ops.length, i ∈ L) (hg : ∀ p ∈ ps, p.e.grow = []) (hlen : ps.length = ops.length) (s : St) : appL ps L s = appL ps (List.range ops.length) s := by
  obtain ⟨a1, a2, a3⟩ := appL_shape hg L s
  obtain ⟨b1, b2, b3⟩ := appL_shape hg (List.range ops.length) s
  have e1 : (appL ps L s).tmps = (appL ps (List.range ops.length) s).tmps := by
    apply List.ext_getElem?
    intro t
    rw [appL_tmp hg, appL_tmp hg, foldl_filter _ (mT ps t) (fun i v h => fT_id v h), foldl_filter _ (mT ps t) (fun i v h => fT_id v h) (List.range _)]
    congr 1
    refine sorted_ext (hL.tmp t) (List.Pairwise.filter _ List.pairwise_lt_range) fun i => ?_
    rw [List.mem_filter, List.mem_filter, List.mem_range]
    exact ⟨fun h => ⟨hL.lt i h.1, h.2⟩, fun h => ⟨hall i h.1, h.2⟩⟩
  have e2 : (appL ps L s).heap = (appL ps (List.range ops.length) s).heap := by
    apply List.ext_getElem?
    intro c
    rw [appL_heap hg, appL_heap hg, foldl_filter _ (mC ps c) (fun i v h => fC_id v h), foldl_filter _ (mC ps c) (fun i v h => fC_id v h) (List.range _)]
    congr 1
    refine sorted_ext (hL.heap c) (List.Pairwise.filter _ List.pairwise_lt_range) fun i => ?_
    rw [List.mem_filter, List.mem_filter, List.mem_range]
    exact ⟨fun h => ⟨hL.lt i h.1, h.2⟩, fun h => ⟨hall i h.1, h.2⟩⟩
  calc appL ps L s = ⟨(appL ps L s).tmps, (appL ps L s).heap, (appL ps L s).pend⟩ := rfl
    _ = _ := by rw [e1, e2, a1, ← b1]

theorem draw_any {A : Amb} {opsA : Array Oper} {ps : List Patch} {s0 : St} (hf : Free opsA.toList ps) (hlen : ps.length = opsA.size) (hi : ps.map (·.i) = List.range opsA.size)
    (hok : ∀ (j : Nat) p, ps[j]? = some p → PatchOk X A opsA ((ps.take j).foldl app1 s0) p) : ∀ (fuel : Nat) (L : List Nat) (listed : Array Bool), Good opsA.toList ps L → listed.size = opsA.size →
    (∀ i < opsA.size, listed.getD i true = decide (i ∈ L)) → fuel + L.length = opsA.size →
    ∀ (T : Tags) (σ lm : Nat → Option Nat) (ro : Option Nat) (a : Act) (w : World), Rel X T σ lm A ro (appL ps L s0) a w → ∀ Q, (∀ a' w', StepTo X T σ lm A ro w (ps.foldl app1 s0) a' w' → Q .normal a' w') →
      wpAnyIn (fence ro) 0 X.P .any opsA Q fuel listed a w := by
  have hg : ∀ p ∈ ps, p.e.grow = [] := fun p hp => by
    obtain ⟨j, hj, e⟩ := List.getElem_of_mem hp
    exact (hok j p (by rw [List.getElem?_eq_getElem hj, e])).2.1
  have hw : ∀ p ∈ ps, ∀ q ∈ p.e.writes, q.1 ∈ p.cs := fun p hp => by
    obtain ⟨j, hj, e⟩ := List.getElem_of_mem hp
    exact (hok j p (by rw [List.getElem?_eq_getElem hj, e])).2.2.1
  have hfin : appL ps (List.range opsA.toList.length) s0 = ps.foldl app1 s0 := by
    rw [appL_range _ (by simp [hlen])]
    simp [← hlen]
  have getF : ∀ (L : List Nat) (listed : Array Bool), listed.size = opsA.size → (∀ i < opsA.size, listed.getD i true = decide (i ∈ L)) → ∀ j, listed.getD j false = true → j ∈ L := fun L listed hs hl j hj => by
    have hlt : j < listed.size := by
      rcases Nat.lt_or_ge j listed.size with h | h
      · exact h
      · rw [Array.getD_eq_getD_getElem?, Array.getElem?_eq_none h] at hj; cases hj
    have := hl j (by omega)
    rw [Array.getD_eq_getD_getElem?, Array.getElem?_eq_getElem hlt] at this hj
    simp only [Option.getD_some] at this hj
    rw [hj] at this
    simpa using this.symm
  -- nothing is ready only when all is done
  have done : ∀ (L : List Nat) (listed : Array Bool), Good opsA.toList ps L → listed.size = opsA.size → (∀ i < opsA.size, listed.getD i true = decide (i ∈ L)) → Region.ready .any opsA listed = [] → ∀ i < opsA.size, i ∈ L := by
    intro L listed hL hs hl hr i
    induction i using Nat.strongRecOn with
    | _ i ih =>
      intro hi'
      refine Classical.byContradiction fun hn => ?_
      have : i ∈ Region.ready .any opsA listed := by
        rw [mem_ready]
        refine ⟨by rw [hl i hi']; simpa using hn, opsA[i], Array.getElem?_eq_getElem hi', fun e he hbd => ?_⟩
        have hlt := hf.edge i opsA[i] (by rw [Array.getElem?_toList]; exact Array.getElem?_eq_getElem hi') e he hbd
        have hm := ih e.on hlt (by omega)
        have := hl e.on (by omega)
        rw [Array.getD_eq_getD_getElem?, Array.getElem?_eq_getElem (by omega)] at this ⊢
        simp only [Option.getD_some] at this ⊢
        rw [this]; simpa using hm
      rw [hr] at this; cases this
  intro fuel
  induction fuel with
  | zero =>
    intro L listed hL hs hl hfu T σ lm ro a w hR Q hq
    have hall : ∀ i < opsA.size, i ∈ L := by
      intro i hi'
      refine Classical.byContradiction fun hn => ?_
      have h1 : (i :: L).Nodup := List.nodup_cons.2 ⟨hn, hL.nodup⟩
      have h2 : (i :: L) ⊆ List.range opsA.size := fun x hx => by
        rcases List.mem_cons.1 hx with rfl | hx
        · exact List.mem_range.2 hi'
        · exact List.mem_range.2 (by simpa using hL.lt x hx)
      have := List.Nodup.length_le_of_subset h1 h2
      simp at this; omega
    refine ⟨?_, ?_⟩
    · rw [List.eq_nil_iff_forall_not_mem]
      intro j hj
      rw [mem_ready] at hj
      obtain ⟨h1, o, ho, _⟩ := hj
      have hlt : j < opsA.size := (Array.getElem?_eq_some_iff.1 ho).1
      rw [hl j hlt] at h1
      simp [hall j hlt] at h1
    · refine hq _ _ ?_
      rw [← hfin, ← appL_all hL (by simpa using hall) hg (by simpa using hlen)]
      exact StepTo.refl hR
  | succ fuel ih =>
    intro L listed hL hs hl hfu T σ lm ro a w hR Q hq
    refine ⟨fun hr => ?_, fun k hk => ?_⟩
    · have hall := done L listed hL hs hl hr
      refine hq _ _ ?_
      rw [← hfin, ← appL_all hL (by simpa using hall) hg (by simpa using hlen)]
      exact StepTo.refl hR
    · rw [mem_ready] at hk
      obtain ⟨hk0, o, ho, hedges⟩ := hk
      have hlt : k < opsA.size := (Array.getElem?_eq_some_iff.1 ho).1
      have hkL : k ∉ L := by rw [hl k hlt] at hk0; simpa using hk0
      have hklt : k < ps.length := by omega
      have hpk : ps[k]? = some ps[k] := List.getElem?_eq_getElem hklt
      have hpre : ∀ j, Bef opsA.toList k j → j ∈ L := by
        intro j hb
        obtain ⟨o', ho', e, he, hbe, hor⟩ := bef_step hb
        rw [Array.getElem?_toList, ho] at ho'
        cases ho'
        have hm := getF L listed hs hl e.on (hedges e he hbe)
        rcases hor with rfl | hb'
        · exact hm
        · exact hL.clos _ hm j hb'
      have hpi : (ps[k]).i = k := by
        have : (ps.map (·.i))[k]? = some k := by rw [hi]; simp [hlt]
        rw [List.getElem?_map, hpk] at this
        simpa using this
      obtain ⟨c1, c2, c3, c4, c5⟩ := hok k _ hpk
      rw [← appL_range k (by omega)] at c1 c5
      have hsame := restrict_same hf hw hL hkL hpk hpre hg s0
      have hpend : (appL ps (List.range k) s0).pend = (appL ps L s0).pend := by
        rw [(appL_shape hg _ s0).1, (appL_shape hg _ s0).1]
      rw [← hsame] at c1 c5
      rw [hpend] at c5
      have hstep := StepOk.frame c1 c2 c3 c4 c5
      rw [hpi] at hstep
      have hnext : appL ps (L ++ [k]) s0 = (ps[k]).e.on (ps[k]).dst (appL ps L s0) (appL ps L s0).pend := by
        unfold appL
        rw [List.foldl_append]
        simp [appI, hpk, app1]
      refine hstep T σ lm ro a w hR _ Q fun v w1 hs1 => ?_
      obtain ⟨T1, σ1, K1, hσ1, R1⟩ := hs1
      refine ih (L ++ [k]) _ (Good.push hf hw hL hkL hpk hpre (by simpa using hlt)) (by simpa using hs) ?_ (by simp; omega) T1 σ1 lm ro _ w1 (by rw [hnext]; exact R1) Q fun a' w' hs' => hq a' w' (StepTo.trans K1 hσ1 hs')
      intro i hi'
      rw [Array.getD_eq_getD_getElem?, Array.getElem?_setIfInBounds]
      by_cases hik : k = i
      · subst hik
        rw [if_pos rfl, if_pos (by omega)]
        simp
      · rw [if_neg hik, ← Array.getD_eq_getD_getElem?, hl i hi']
        have : i ≠ k := fun e => hik e.symm
        simp [this]

theorem regionK_some (hX : XOk X) (hM : X.P.follows .mixedOrders = true) (hT : CallTOk X rec.callT) (hH : CallHOk X rec.callH) {A : Amb} {id : Nat} {opsA : Array Oper} {draw : Bool} {s : St} {k : St → Option R} {r : R}
    (h : regionK X rec A opsA draw s k = some r) : ∃ s', k s' = some r ∧ ∀ (T : Tags) (σ lm : Nat → Option Nat) (ro : Option Nat) (a : Act) (w : World), Rel X T σ lm A ro s a w → ∀ Q, (∀ a' w', StepTo X T σ lm A ro w s' a' w' → Q .normal a' w') →
      (Code.region id opsA draw).wpIn (fence ro) 0 X.P Q a w := by
  unfold regionK at h
  simp only at h
  have hz : (opsA.toList.zipIdx.map fun p => (p.2, p.1)).map (·.1) = List.range opsA.size := zipIdx_ops opsA
  split at h
  · rename_i hd
    obtain ⟨ps, h1, h2, h3⟩ := stepsDK_some hX hT hH (zipIdx_get opsA) h
    split at h1
    · rename_i hfo
      simp only [List.nil_append] at hfo
      refine ⟨_, h1, fun T σ lm ro a w hR Q hq => ?_⟩
      subst hd
      have hmap : ps.map (·.i) = List.range opsA.size := h2.trans hz
      have hlen : ps.length = opsA.size := by
        have := congrArg List.length hmap
        simpa using this
      refine wpIn_region_any hM ?_
      refine draw_any (freeOrder_some hfo) hlen hmap h3 opsA.size [] _ Good.nil (by simp) (fun i hi => by simp [hi]) (by simp) T σ lm ro a _ ?_ Q fun a' w' hs => hq a' w' ?_
      · exact (hR.room _).of_heap rfl
      · obtain ⟨T', σ', K, hs1, R1⟩ := hs
        exact ⟨T', σ', (Keeps.drew T w).trans K, hs1, R1⟩
    · cases h1
  · rename_i hd
    obtain ⟨s', h1, h2⟩ := stepsK_some hX hT hH (zipIdx_get opsA) h
    refine ⟨s', h1, fun T σ lm ro a w hR Q hq => ?_⟩
    obtain rfl : draw = false := by simpa using hd
    refine wpIn_region ?_
    rw [← hz]
    exact h2 T σ lm ro a w (hR.room _) Q hq
end Go.Am

/-
  THE ABSTRACT MACHINE: rows go to the places that a template has for them.
-/
namespace Go.Am
open Go

def AmbOk (A : Amb) : Prop := ∀ r ∈ A.loops, ∀ p ∈ ptrsL r.tmps, p < A.base

/-- What code hands on. -/
def GoTo (X : Ext) (T : Tags) (σ lm : Nat → Option Nat) (A : Amb) (ro : Option Nat) (w : World) (s' : St) (a' : Act) (w' : World) : Prop :=
  ∃ T' σ', Keeps T w T' w' ∧ (∀ c, c < A.base → ∀ b, σ c = some b → σ' c = some b) ∧ Rel X T' σ' lm A ro s' a' w'

section
variable {X : Ext} {T : Tags} {σ lm : Nat → Option Nat} {A : Amb} {ro : Option Nat} {s : St} {a : Act} {w w1 : World}
theorem GoTo.of_step {s' : St} {a' : Act} {w' : World} (h : StepTo X T σ lm A ro w s' a' w') : GoTo X T σ lm A ro w s' a' w' := by
  obtain ⟨T', σ', K, hs, R⟩ := h
  exact ⟨T', σ', K, fun c _ b e => hs c b e, R⟩
theorem GoTo.refl (h : Rel X T σ lm A ro s a w) : GoTo X T σ lm A ro w s a w := .of_step (.refl h)
theorem GoTo.trans {T' : Tags} {σ' : Nat → Option Nat} {s2 : St} {a2 : Act} {w2 : World} (hk : Keeps T w T' w1) (hs : ∀ c, c < A.base → ∀ b, σ c = some b → σ' c = some b)
    (h : GoTo X T' σ' lm A ro w1 s2 a2 w2) : GoTo X T σ lm A ro w s2 a2 w2 := by
  obtain ⟨T2, σ2, k2, s2', r2⟩ := h
  exact ⟨T2, σ2, hk.trans k2, fun c hc b e => s2' c hc b (hs c hc b e), r2⟩

theorem swapN_swapN (c r x : Nat) : swapN c r (swapN c r x) = x := by
  unfold swapN
  by_cases h1 : x = c
  · subst h1
    by_cases h2 : r = x
    · subst h2; simp
    · simp [h2]
  · by_cases h2 : x = r
    · subst h2; simp
    · simp [h1, h2]
theorem swapN_lt {c r x n : Nat} (hc : n ≤ c) (hr : n ≤ r) (hx : x < n) : swapN c r x = x := by
  unfold swapN
  rw [if_neg (by omega), if_neg (by omega)]
theorem swapL_length (c r : Nat) (h : List Cell) : (swapL c r h).length = h.length := by simp [swapL]
theorem swapL_get {c r : Nat} {h : List Cell} (hc : c < h.length) (hr : r < h.length) (x : Nat) : (swapL c r h)[x]? = h[swapN c r x]? := by
  unfold swapL swapN
  rw [List.getElem?_set]
  by_cases h2 : r = x
  · subst h2
    by_cases h1 : r = c
    · subst h1; simp [hc]
    · simp [h1, hr, hc]
  · rw [if_neg h2, List.getElem?_set]
    by_cases h1 : c = x
    · subst h1
      simp [hc, hr]
    · rw [if_neg h1, if_neg (fun e => h1 e.symm), if_neg (fun e => h2 e.symm)]

def Tag.ren (g : Nat → Nat) : Tag → Tag
  | .cell c j => .cell (g c) j
  | .spare (.leaf c j) q => .spare (.leaf (g c) j) q
  | t => t
def Tags.ren (g : Nat → Nat) (T : Tags) : Tags := fun b o => (T b o).ren g
theorem tagsRen_fix (g : Nat → Nat) (T : Tags) : (T.ren g).fix = T.fix := by
  funext b o
  unfold Tags.fix Tags.ren
  cases T b o with
  | spare l j => cases l <;> rfl
  | _ => rfl
theorem tagRen_mine (g : Nat → Nat) (t : Tag) : (t.ren g).mine = t.mine := by
  cases t with
  | spare l j => cases l <;> rfl
  | _ => rfl

/-- Two places change. -/
theorem Rel.swap (hR : Rel X T σ lm A ro s a w) (hA : AmbOk A) {c r : Nat} (hc : c < s.heap.length) (hr : r < s.heap.length) (hcb : A.base ≤ c) (hrb : A.base ≤ r) : GoTo X T σ lm A ro w (s.swap c r) a w := by
  have gg := swapN_swapN c r
  have hget : ∀ x, (s.swap c r).heap[x]? = (s.heap[swapN c r x]?).map (Cell.ren (swapN c r)) := fun x => by
    unfold St.swap
    rw [List.getElem?_map, swapL_get hc hr]
  have hσ : ∀ p b, σ p = some b → (fun x => σ (swapN c r x)) (swapN c r p) = some b := fun p b e => by simp only [gg]; exact e
  have hown : ∀ x j q b o, T.own (.leaf (swapN c r x) j) q b o → (T.ren (swapN c r)).own (.leaf x j) q b o := fun x j q b o e => by
    have e' : T b o = .spare (.leaf (swapN c r x) j) q := e
    show T.ren (swapN c r) b o = _
    unfold Tags.ren; rw [e']; simp only [Tag.ren, gg]
  have hfix : Fix.le T.fix (T.ren (swapN c r)).fix := by rw [tagsRen_fix]; exact Fix.le.refl _
  refine ⟨T.ren (swapN c r), fun x => σ (swapN c r x), ⟨rfl, rfl, rfl, Nat.le_refl _, fun b o v e => by unfold Tags.ren; rw [e]; rfl, fun b o _ e => by unfold Tags.ren; rw [e]; rfl, fun _ _ _ _ => ⟨rfl, rfl⟩, fun _ _ _ => rfl⟩,
    fun x hx b e => by simp only [swapN_lt hcb hrb hx]; exact e, ⟨⟨?_, ?_, ?_, ?_, ?_, ?_, hR.inv.plen, ?_⟩, ?_, ?_, ?_, ?_, hR.nodup, hR.round, by rw [tagsRen_fix]; exact hR.glob⟩⟩
  · intro b o v e
    rw [← Tags.fix_eq, tagsRen_fix, Tags.fix_eq] at e
    exact hR.inv.fixed b o v e
  · intro b o l j e
    cases ht : T b o with
    | spare l' j' => exact hR.inv.spare b o l' j' ht
    | _ => unfold Tags.ren at e; rw [ht] at e; simp [Tag.ren] at e
  · intro b o e
    exact hR.inv.live b o fun hf => e (by unfold Tags.ren; rw [hf]; rfl)
  · intro x b e
    obtain ⟨q, hq, hl⟩ := hR.inv.dom _ b e
    exact ⟨q.ren (swapN c r), by rw [hget, hq]; rfl, by rw [live_ren]; exact hl⟩
  · intro x q hq
    rw [hget] at hq
    cases hx : s.heap[swapN c r x]? with
    | none => rw [hx] at hq; cases hq
    | some y =>
      rw [hx] at hq
      obtain ⟨l, rfl, rfl⟩ := cell_ren_var (Option.some.inj hq)
      obtain ⟨b, e1, e2, e3⟩ := hR.inv.var _ l hx
      refine ⟨b, e1, e2, fun j av hj => ?_⟩
      rw [renL_get] at hj
      cases ej : l[j]? with
      | none => rw [ej] at hj; cases hj
      | some av0 =>
        rw [ej] at hj
        obtain rfl := Option.some.inj hj
        obtain ⟨v, f1, f2, f3, f4⟩ := e3 j av0 ej
        exact ⟨v, f1, f2, by unfold Tags.ren; rw [f3]; simp only [Tag.ren, gg], f4.ren hfix _ (fun q b o e => hown x j q b o e) fun p _ b' e => hσ p b' e⟩
  · intro x y hy
    rw [hget] at hy
    cases hx : s.heap[swapN c r x]? with
    | none => rw [hx] at hy; cases hy
    | some y0 =>
      rw [hx] at hy
      obtain rfl := Option.some.inj hy
      refine (hR.inv.mem _ y0 hx).mono (fun hv => cell_ren_other hv) (fun l hv => ⟨_, by rw [hv]; rfl⟩) (fun p e => e) hfix (fun b k e => ⟨by unfold Tags.ren; rw [e]; simp only [Tag.ren, gg], rfl, rfl⟩) fun b k e => by unfold Tags.ren; rw [e]; simp only [Tag.ren, gg]
  · intro i rr hrr
    obtain ⟨b, rec, e1, e2, e3, e4, e5, e6, e7, e8, e9, e10⟩ := hR.inv.loop i rr hrr
    refine ⟨b, rec, e1, by unfold Tags.ren; rw [e2]; rfl, e3, e4, e5, e6, e7, e8, fun t => ?_, e10⟩
    exact (e9 t).cut hfix (fun _ _ _ x => x) fun q hq b' e' => by
      simp only [swapN_lt hcb hrb (hA rr (List.mem_of_getElem? hrr) q (mem_getT hq))]; exact e'
  · show (renL _ _).length = _
    rw [renL_length]; exact hR.len
  · exact hR.nt
  · intro t
    show Rep _ _ _ _ (getT (renL _ _) t) _
    rw [getT_renL]
    refine (hR.tm t).ren hfix _ (fun q b o e => ?_) fun p _ b' e => hσ p b' e
    have e' : T b o = .spare (.tmp t) q := e
    show T.ren (swapN c r) b o = _
    unfold Tags.ren; rw [e']; rfl
  · intro d hd
    obtain ⟨D, e1, e2, e3⟩ := hR.marks d hd
    exact ⟨D, e1, e2, fun o => by unfold Tags.ren; rw [e3]; rfl⟩

theorem Rel.pad (hR : Rel X T σ lm A ro s a w) (n : Nat) : Rel X T σ lm A ro (s.pad n) a w := hR.room _
theorem pad_length (s : St) (n : Nat) : (s.pad n).heap.length = max n s.heap.length := by
  unfold St.pad; simp; omega

/-- nil, as a slice over a row without cells. -/
theorem nil_hs {F : Fix} {lm : Nat → Option Nat} {ow : Own} {r : Nat} {e : Ty} {u : Value} (hr : σ r = some 0) (h : Rep F σ lm ow .nil u) : Rep F σ lm ow (.hs r e 0 0) u := by
  cases h
  exact .hs _ _ _ _ _ _ ⟨0, hr, by simp, by simp [rowC], none, by simp [rowC], fun h => by simp [rowC] at h, fun _ => by simp [rowC]⟩

theorem nilAT_rep {F : Fix} {lm : Nat → Option Nat} {ow : Own} {r : Nat} {at' : AT} {v : AV} {u : Value} (hr : σ r = some 0) (h : Rep F σ lm ow v u) : Rep F σ lm ow (nilAT r at' v) u := by
  unfold nilAT
  split
  · split
    · exact nil_hs hr h
    · exact h
  · split
    · exact nil_hs hr h
    · exact h
  · exact h
theorem nilRow_get {r : Nat} : ∀ (l : List AT) (vs : List AV) (j : Nat) (av : AV), (nilRow r l vs)[j]? = some av → ∃ v, vs[j]? = some v ∧ (av = v ∨ ∃ a, av = nilAT r a v) := by
  intro l
  induction l with
  | nil => intro vs j av h; exact ⟨av, by cases vs with
    | nil => simp [nilRow] at h
    | cons => simpa [nilRow] using h, .inl rfl⟩
  | cons a l ih =>
    intro vs j av h
    cases vs with
    | nil => simp [nilRow] at h
    | cons v vs =>
      cases j with
      | zero => simp [nilRow] at h; exact ⟨v, rfl, .inr ⟨a, h.symm⟩⟩
      | succ j => simp [nilRow] at h; simpa using ih vs j av h
theorem nilHeap_get {r : Nat} : ∀ (p : List CT) (h : List Cell) (c : Nat) (x : Cell), (nilHeap r p h)[c]? = some x → ∃ y, h[c]? = some y ∧ (x = y ∨ ∃ l vs, y = .var vs ∧ x = .var (nilRow r l vs)) := by
  intro p
  induction p with
  | nil => intro h c x hx; exact ⟨x, by cases h with
    | nil => simp [nilHeap] at hx
    | cons => simpa [nilHeap] using hx, .inl rfl⟩
  | cons t p ih =>
    intro h c x hx
    cases h with
    | nil => cases t <;> simp [nilHeap] at hx
    | cons y h =>
      have key : ∀ z : Cell, (z = y ∨ ∃ l vs, y = .var vs ∧ z = .var (nilRow r l vs)) → (z :: nilHeap r p h)[c]? = some x → ∃ y', (y :: h)[c]? = some y' ∧ (x = y' ∨ ∃ l vs, y' = .var vs ∧ x = .var (nilRow r l vs)) := by
        intro z hz hx
        cases c with
        | zero => simp at hx; subst hx; exact ⟨y, rfl, hz⟩
        | succ c => simp at hx; simpa using ih h c x hx
      unfold nilHeap at hx
      split at hx
      · rename_i l p' vs h' e1 e2
        cases e1; cases e2
        exact key _ (.inr ⟨l, vs, rfl, rfl⟩) hx
      · rename_i t' p' y' h' _ e1 e2
        cases e1; cases e2
        exact key _ (.inl rfl) hx
      · rename_i hne1 hne2
        exact absurd rfl (hne2 _ _ _ _ rfl)
theorem nilHeap_of {r : Nat} {p : List CT} {h : List Cell} {c : Nat} {y : Cell} (hy : h[c]? = some y) : ∃ x, (nilHeap r p h)[c]? = some x ∧ (x = y ∨ ∃ l vs, y = .var vs ∧ x = .var (nilRow r l vs)) := by
  have hlen : ∀ (p : List CT) (h : List Cell), (nilHeap r p h).length = h.length := by
    intro p
    induction p with
    | nil => intro h; cases h <;> rfl
    | cons t p ih =>
      intro h
      cases h with
      | nil => cases t <;> rfl
      | cons y h =>
        unfold nilHeap
        split
        · rename_i e1 e2; cases e1; cases e2; simp [ih]
        · rename_i e1 e2; cases e1; cases e2; simp [ih]
        · rename_i hne; exact absurd rfl (hne _ _ _ _ rfl)
  have hlt := get_lt hy
  have hx : (nilHeap r p h)[c]? = some ((nilHeap r p h)[c]'(by rw [hlen]; exact hlt)) := List.getElem?_eq_getElem _
  obtain ⟨y', h1, h2⟩ := nilHeap_get p h c _ hx
  rw [hy] at h1; cases h1
  exact ⟨_, hx, h2⟩

theorem nilTm_rep {F : Fix} {lm : Nat → Option Nat} {ow : Nat → Own} {us : Array Value} {r : Nat} (hr : σ r = some 0) : ∀ (l : List (Tmp × AT)) {vs : List AV}, (∀ t, Rep F σ lm (ow t) (getT vs t) (us.getD t undef)) →
    (nilTm r l vs).length = vs.length ∧ ∀ t, Rep F σ lm (ow t) (getT (nilTm r l vs) t) (us.getD t undef) := by
  intro l
  induction l with
  | nil => intro vs h; exact ⟨rfl, h⟩
  | cons a l ih =>
    intro vs h
    unfold nilTm
    split
    · rename_i e1; cases e1
    · rename_i vs _ _ t r' e l' e1
      cases e1
      split
      · rename_i hn
        split
        · have := ih (vs := vs.set t (.hs r e 0 0)) fun t' => by
            rw [getT_set]
            split
            · rename_i ht
              obtain ⟨rfl, _⟩ := ht
              have h0 := h t
              rw [hn] at h0
              exact nil_hs hr h0
            · exact h t'
          exact ⟨by rw [this.1]; simp, this.2⟩
        · exact ih h
      · exact ih h
    · rename_i e1; cases e1; exact ih h

theorem Rel.nils (hR : Rel X T σ lm A ro s a w) {r : Nat} (hr : σ r = some 0) (p : Tpl) : Rel X T σ lm A ro { s with tmps := nilTm r p.tmps s.tmps, heap := nilHeap r p.heap s.heap } a w := by
  obtain ⟨n1, n2⟩ := nilTm_rep (ow := fun t => T.own (.tmp t)) hr p.tmps hR.tm
  refine ⟨⟨hR.inv.fixed, hR.inv.spare, hR.inv.live, ?_, ?_, ?_, hR.inv.plen, hR.inv.loop⟩, by rw [← hR.len]; exact n1, hR.nt, n2, hR.marks, hR.nodup, hR.round, hR.glob⟩
  · intro c b e
    obtain ⟨q, hq, hl⟩ := hR.inv.dom c b e
    obtain ⟨x, h1, h2⟩ := nilHeap_of (r := r) (p := p.heap) hq
    refine ⟨x, h1, ?_⟩
    rcases h2 with rfl | ⟨l, vs, rfl, rfl⟩
    · exact hl
    · rfl
  · intro c q hq
    obtain ⟨y, h1, h2⟩ := nilHeap_get p.heap s.heap c _ hq
    rcases h2 with rfl | ⟨l, vs, rfl, h3⟩
    · exact hR.inv.var c q h1
    · cases h3
      obtain ⟨b, g1, g2, g3⟩ := hR.inv.var c vs h1
      refine ⟨b, g1, g2, fun j av hj => ?_⟩
      obtain ⟨v, k1, k2⟩ := nilRow_get l vs j av hj
      obtain ⟨u, e1, e2, e3, e4⟩ := g3 j v k1
      refine ⟨u, e1, e2, e3, ?_⟩
      rcases k2 with rfl | ⟨a', rfl⟩
      · exact e4
      · exact nilAT_rep hr e4
  · intro c x hx
    obtain ⟨y, h1, h2⟩ := nilHeap_get p.heap s.heap c _ hx
    rcases h2 with rfl | ⟨l, vs, rfl, rfl⟩
    · exact hR.inv.mem c _ h1
    · trivial

theorem Rel.alignRow (hR : Rel X T σ lm A ro s a w) (hA : AmbOk A) (p : Tpl) (r : Nat) : GoTo X T σ lm A ro w (alignRow p A.base r s) a w := by
  unfold Go.Am.alignRow
  split
  · exact .refl hR
  · rename_i c e _
    split
    · exact .refl hR
    · split
      · rename_i hc
        refine (hR.pad (r + 1)).swap hA ?_ ?_ hc.1 hc.2.1
        · rw [pad_length]; omega
        · rw [pad_length]; omega
      · exact .refl hR
  · rename_i e _
    split
    · rename_i hc
      simp only
      have R1 := hR.pad (r + 1)
      have hl1 : r < (s.pad (r + 1)).heap.length := by rw [pad_length]; omega
      generalize s.pad (r + 1) = s1 at R1 hl1
      have step2 : GoTo X T σ lm A ro w (s1.free r) a w := by
        unfold St.free
        split
        · exact .refl R1
        · refine (R1.pad (s1.heap.length + 1)).swap hA ?_ ?_ (by omega) hc.1
          · rw [pad_length]; omega
          · rw [pad_length]; omega
      obtain ⟨T2, σ2, K2, m2, R2⟩ := step2
      generalize s1.free r = s2 at R2
      refine GoTo.trans K2 m2 ?_
      split
      · rename_i hslot
        have R3 := R2.rowNil hslot e hc.2.1
        have hm : ∀ c b, σ2 c = some b → (fun c => if c = r then some 0 else σ2 c) c = some b := fun c b e' => by
          by_cases hcr : c = r
          · subst hcr; rw [R2.slot_none hslot] at e'; cases e'
          · simp only [if_neg hcr]; exact e'
        have R4 := R3.nils (r := r) (by simp) p
        exact ⟨T2, _, Keeps.refl _ _, fun c _ b e' => hm c b e', R4⟩
      · exact .refl R2
    · exact .refl hR

theorem Rel.align (hA : AmbOk A) (p : Tpl) : ∀ (l : List Nat) {s : St} {T : Tags} {σ : Nat → Option Nat}, Rel X T σ lm A ro s a w → GoTo X T σ lm A ro w (alignAll p A.base l s) a w := by
  intro l
  induction l with
  | nil => intro s T σ hR; exact .refl hR
  | cons r l ih =>
    intro s T σ hR
    obtain ⟨T1, σ1, K1, m1, R1⟩ := hR.alignRow hA p r
    exact GoTo.trans K1 m1 (ih R1)
end
end Go.Am

/-
  THE ABSTRACT MACHINE: a state packed by a template, and unpacked.
-/
namespace Go.Am
open Go

section
variable {F : Fix} {σ σ' lm : Nat → Option Nat}

theorem AT0.rep : ∀ (a : AT0) {v : AV} {u : Value} {ow : Own} {x : a.ty.den}, a.pack v = some x → Rep F σ lm ow v u → (∀ c ∈ a.ptrs, ∀ b, σ c = some b → σ' c = some b) → Rep F σ' lm ow (a.unpack x) u
  | .top, v, u, ow, x, _, _, _ => .top _ _
  | .ptr c o, v, u, ow, x, h, hr, hp => by
    cases v <;> simp only [AT0.pack] at h <;> try (cases h; done)
    split at h
    · rename_i hc
      obtain ⟨rfl, rfl⟩ := hc
      cases hr with
      | ptr _ _ _ b hb => exact .ptr _ _ _ _ (hp _ (by simp [AT0.ptrs]) b hb)
    · cases h
  | .map c, v, u, ow, x, h, hr, hp => by
    cases v <;> simp only [AT0.pack] at h <;> try (cases h; done)
    split at h
    · rename_i hc
      subst hc
      cases hr with
      | map _ _ b hb => exact .map _ _ _ (hp _ (by simp [AT0.ptrs]) b hb)
    · cases h
  | .hs c e, v, u, ow, x, h, hr, hp => by
    cases v <;> simp only [AT0.pack] at h <;> try (cases h; done)
    rename_i c' e' lo' len'
    split at h
    · rename_i hc
      obtain ⟨rfl, rfl, rfl⟩ := hc
      cases h
      cases hr with
      | hs _ _ _ _ _ u hb =>
        show Rep _ _ _ _ (.hs _ _ 0 (Int.toNat (len' : Int))) _
        rw [Int.toNat_natCast]
        exact .hs _ _ _ _ _ _ (hb.mono (hp _ (by simp [AT0.ptrs])))
    · cases h
  | .hw c e, v, u, ow, x, h, hr, hp => by
    cases v <;> simp only [AT0.pack] at h <;> try (cases h; done)
    rename_i c' e' lo' len'
    split at h
    · rename_i hc
      obtain ⟨rfl, rfl⟩ := hc
      cases h
      cases hr with
      | hs _ _ _ _ _ u hb =>
        show Rep _ _ _ _ (.hs _ _ (Int.toNat (lo' : Int)) (Int.toNat (len' : Int))) _
        rw [Int.toNat_natCast, Int.toNat_natCast]
        exact .hs _ _ _ _ _ _ (hb.mono (hp _ (by simp [AT0.ptrs])))
    · cases h
  | .agg t, v, u, ow, x, h, hr, hp => by
    cases v <;> simp only [AT0.pack] at h <;> try (cases h; done)
    cases hr with
    | agg _ l vs hl => exact .agg _ _ _ (repL_leaves (takeAll_some h hl))
  | .data own t, v, u, ow, x, h, hr, hp => by
    simp only [AT0.pack] at h
    split at h
    · rename_i hok
      cases t with
      | unit => exact .top _ _
      | pair a b => exact .top _ _
      | sum a b => exact .top _ _
      | int k =>
        unfold takeAll at h
        obtain ⟨y, h1, h2⟩ := bind_some h
        cases v <;> simp only [Ty.take] at h1 <;> try (cases h1; done)
        split at h1
        · rename_i hk
          subst hk
          cases h1
          simp at h2
          cases hr
          subst h2
          exact .int _ _ _
        · cases h1
      | bool =>
        unfold takeAll at h
        obtain ⟨y, h1, h2⟩ := bind_some h
        cases v <;> simp only [Ty.take] at h1 <;> try (cases h1; done)
        cases h1
        simp at h2
        cases hr
        subst h2
        exact .bool _ _
      | str =>
        unfold takeAll at h
        obtain ⟨y, h1, h2⟩ := bind_some h
        cases v <;> simp only [Ty.take] at h1 <;> try (cases h1; done)
        cases h1
        simp at h2
        cases hr
        subst h2
        exact .str _ _
      | slice e =>
        unfold takeAll at h
        obtain ⟨y, h1, h2⟩ := bind_some h
        cases v <;> simp only [Ty.take] at h1 <;> try (cases h1; done)
        · rename_i o e' xs
          split at h1
          · rename_i he
            subst he
            cases h1
            simp at h2
            subst h2
            cases hr with
            | slice _ _ _ _ a cap hc hrow ho =>
              refine .slice _ _ _ _ _ _ hc hrow fun hown => ho ?_
              cases own with
              | false => cases hown
              | true => simpa [ownOk] using hok
          · cases h1
        · cases h1
          simp at h2
          subst h2
          cases hr
          exact .slice _ own e [] none 0 ⟨Nat.le_refl _, fun _ => rfl, Nat.zero_le _⟩ (fun i x hx => by simp at hx) fun _ => .inl ⟨rfl, rfl⟩
    · cases h

theorem AT0.repL : ∀ (l : List AT0) {vs : List AV} {us : List Value} {x : (rowAT0 l).den}, packAT0 l vs = some x → RepL F σ lm vs us → (∀ c ∈ l.flatMap AT0.ptrs, ∀ b, σ c = some b → σ' c = some b) → RepL F σ' lm (unpackAT0 l x) us := by
  intro l
  induction l with
  | nil =>
    intro vs us x h hr _
    cases vs with
    | nil => cases hr; exact .nil
    | cons => cases h
  | cons a l ih =>
    intro vs us x h hr hp
    cases vs with
    | nil => cases h
    | cons v vs =>
      simp only [packAT0] at h
      obtain ⟨y, h1, h⟩ := bind_some h
      obtain ⟨z, h2, h⟩ := bind_some h
      cases h
      cases hr with
      | cons _ u _ us hv ht =>
        refine .cons _ _ _ _ (a.rep h1 hv fun c hc => hp c ?_) (ih h2 ht fun c hc => hp c ?_)
        · simp only [List.flatMap_cons, List.mem_append]; exact .inl hc
        · simp only [List.flatMap_cons, List.mem_append]; exact .inr hc

theorem packAT0_len : ∀ (l : List AT0) {vs : List AV} {x : (rowAT0 l).den}, packAT0 l vs = some x → vs = [] → unpackAT0 l x = []
  | [], _, _, _, _ => rfl
  | a :: l, _, _, h, e => by subst e; cases h

theorem AT.rep (a : AT) {v : AV} {u : Value} {ow : Own} {x : a.ty.den} (h : a.pack v = some x) (hr : Rep F σ lm ow v u) (hp : ∀ c ∈ a.ptrs, ∀ b, σ c = some b → σ' c = some b) : Rep F σ' lm ow (a.unpack x) u := by
  cases a with
  | base a => exact a.rep h hr hp
  | func fn a b =>
    cases v <;> simp only [AT.pack] at h <;> try (cases h; done)
    rename_i fn' p q
    split at h
    · rename_i hf
      subst hf
      obtain ⟨y, h1, h⟩ := bind_some h
      obtain ⟨z, h2, h⟩ := bind_some h
      cases h
      cases hr with
      | func _ g p q vp vq hp1 hq1 =>
        refine .func _ _ _ _ _ _ (AT0.repL a h1 hp1 fun c hc => hp c ?_) (AT0.repL b h2 hq1 fun c hc => hp c ?_)
        · simp only [AT.ptrs, List.mem_append]; exact .inl hc
        · simp only [AT.ptrs, List.mem_append]; exact .inr hc
      | yield _ l r hl =>
        simp only [AT.unpack]
        rw [packAT0_len a h1 rfl, packAT0_len b h2 rfl]
        exact .yield _ _ _ hl
    · cases h
end

theorem packAT_get : ∀ (l : List AT) {vs : List AV} {x : (rowAT l).den}, packAT l vs = some x → ∀ (j : Nat) av, (unpackAT l x)[j]? = some av → ∃ a v y, a ∈ l ∧ vs[j]? = some v ∧ a.pack v = some y ∧ av = a.unpack y := by
  intro l
  induction l with
  | nil => intro vs x h j av hj; simp [unpackAT] at hj
  | cons a l ih =>
    intro vs x h j av hj
    cases vs with
    | nil => cases h
    | cons v vs =>
      simp only [packAT] at h
      obtain ⟨y, h1, h⟩ := bind_some h
      obtain ⟨z, h2, h⟩ := bind_some h
      cases h
      cases j with
      | zero =>
        simp [unpackAT] at hj
        exact ⟨a, v, y, by simp, rfl, h1, hj.symm⟩
      | succ j =>
        simp [unpackAT] at hj
        obtain ⟨a', v', y', e1, e2, e3, e4⟩ := ih h2 j av hj
        exact ⟨a', v', y', by simp [e1], by simpa using e2, e3, e4⟩

theorem packCT_get : ∀ (l : List CT) {hs : List Cell} {x : (rowCT l).den}, packCT l hs = some x → (∀ (c : Nat) cell, (unpackCT l x)[c]? = some cell → ∃ t s y, l[c]? = some t ∧ hs[c]? = some s ∧ t.pack s = some y ∧ cell = t.unpack y) ∧
    (∀ (c : Nat) t, l[c]? = some t → ∃ s y, hs[c]? = some s ∧ t.pack s = some y ∧ (unpackCT l x)[c]? = some (t.unpack y)) := by
  intro l
  induction l with
  | nil => intro hs x h; exact ⟨fun c cell hc => by simp [unpackCT] at hc, fun c t hc => by simp at hc⟩
  | cons a l ih =>
    intro hs x h
    cases hs with
    | nil => cases h
    | cons s hs =>
      simp only [packCT] at h
      obtain ⟨y, h1, h⟩ := bind_some h
      obtain ⟨z, h2, h⟩ := bind_some h
      cases h
      obtain ⟨i1, i2⟩ := ih h2
      refine ⟨fun c cell hc => ?_, fun c t hc => ?_⟩
      · cases c with
        | zero => simp [unpackCT] at hc; exact ⟨a, s, y, rfl, rfl, h1, hc.symm⟩
        | succ c => simpa using i1 c cell (by simpa [unpackCT] using hc)
      · cases c with
        | zero => simp at hc; subst hc; exact ⟨s, y, rfl, h1, rfl⟩
        | succ c => simpa [unpackCT] using i2 c t (by simpa using hc)

theorem unpackTm_length (n : Nat) : ∀ (l : List (Tmp × AT)) (x : (rowTm l).den), (unpackTm n l x).length = n := by
  intro l
  induction l with
  | nil => intro x; simp [unpackTm]
  | cons a l ih => intro x; simp [unpackTm, ih]

theorem unpackTm_rep {F : Fix} {σ σ' lm : Nat → Option Nat} {n : Nat} {vs : List AV} {us : Array Value} {ow : Nat → Own} (hv : ∀ t, Rep F σ lm (ow t) (getT vs t) (us.getD t undef)) : ∀ (l : List (Tmp × AT)) {x : (rowTm l).den}, packTm l vs = some x →
    (∀ c ∈ l.flatMap fun a => a.2.ptrs, ∀ b, σ c = some b → σ' c = some b) → ∀ t, Rep F σ' lm (ow t) (getT (unpackTm n l x) t) (us.getD t undef) := by
  intro l
  induction l with
  | nil =>
    intro x _ _ t
    have : getT (unpackTm n [] x) t = .top := by
      unfold getT unpackTm
      rw [List.getD_eq_getElem?_getD, List.getElem?_replicate]
      split <;> rfl
    rw [this]; exact .top _ _
  | cons a l ih =>
    intro x h hp t
    simp only [packTm] at h
    obtain ⟨y, h1, h⟩ := bind_some h
    obtain ⟨z, h2, h⟩ := bind_some h
    cases h
    simp only [unpackTm, getT_set]
    split
    · rename_i ht
      obtain ⟨rfl, _⟩ := ht
      exact a.2.rep h1 (hv a.1) fun c hc => hp c (by simp only [List.flatMap_cons, List.mem_append]; exact .inl hc)
    · exact ih h2 (fun c hc => hp c (by simp only [List.flatMap_cons, List.mem_append]; exact .inr hc)) t

/-! ### The whole state -/
def keepC (p : Tpl) (c : Nat) : Bool := (p.heap[c]?).any CT.isVar
def dropTag (p : Tpl) : Tag → Tag
  | .cell c j => if keepC p c = true then .cell c j else .free
  | .spare (.leaf c j) q => if keepC p c = true then .spare (.leaf c j) q else .free
  | t => t
def dropTags (p : Tpl) (T : Tags) : Tags := fun b o => dropTag p (T b o)
theorem dropTag_or (p : Tpl) (t : Tag) : dropTag p t = t ∨ dropTag p t = .free := by
  cases t with
  | cell c j => simp only [dropTag]; split <;> simp
  | spare l j => cases l <;> simp only [dropTag] <;> first | (split <;> simp) | simp
  | _ => exact .inl rfl
theorem dropTags_fix (p : Tpl) (T : Tags) : (dropTags p T).fix = T.fix := by
  funext b o
  unfold Tags.fix dropTags
  cases T b o with
  | cell c j => simp only [dropTag]; split <;> rfl
  | spare l j => cases l <;> simp only [dropTag] <;> first | (split <;> rfl) | rfl
  | _ => rfl

section
variable {X : Ext} {T : Tags} {σ lm : Nat → Option Nat} {A : Amb} {ro : Option Nat} {s : St} {a : Act} {w w1 : World}
theorem Rel.pack0 (hR : Rel X T σ lm A ro s a w) (hA : AmbOk A) {p : Tpl} {x : p.ty.den} (h : p.pack0 A.base s = some x) : GoTo X T σ lm A ro w (p.unpack A.nt x) a w := by
  unfold Tpl.pack0 at h
  split at h
  · rename_i hc
    obtain ⟨hptr, hpend, hbase⟩ := hc
    obtain ⟨x1, h1, h⟩ := bind_some h
    obtain ⟨x2, h2, h⟩ := bind_some h
    cases h
    obtain ⟨g1, g2⟩ := packCT_get p.heap h2
    let σ' : Nat → Option Nat := fun c => if keepC p c = true then σ c else none
    have hσ : ∀ c, keepC p c = true → ∀ b, σ c = some b → σ' c = some b := fun c hc b e => by
      show (if keepC p c = true then σ c else none) = some b
      rw [if_pos hc]; exact e
    have hptr' : ∀ c, (c ∈ (p.tmps.flatMap fun a => a.2.ptrs) ∨ c ∈ p.heap.flatMap CT.ptrs) → keepC p c = true := fun c hc => by
      unfold Tpl.ptrsOk at hptr
      rw [List.all_eq_true] at hptr
      exact hptr c (List.mem_append.2 hc)
    have hb : ∀ c, c < A.base → ∀ b, σ c = some b → σ' c = some b := fun c hc b e => by
      refine hσ c ?_ b e
      unfold Tpl.baseOk at hbase
      simp only [Bool.and_eq_true, decide_eq_true_eq, List.all_eq_true] at hbase
      obtain ⟨hb1, hb2⟩ := hbase
      obtain ⟨x, hl, hx⟩ := hR.inv.dom c b e
      have hlt : c < p.heap.length := by omega
      have hp : p.heap[c]? = some p.heap[c] := List.getElem?_eq_getElem hlt
      have hxv : x.isVar = true := by cases x <;> first | rfl | cases hx
      have := hb2 (p.heap[c], x) (by
        rw [List.mem_iff_getElem?]
        refine ⟨c, ?_⟩
        rw [List.getElem?_take, if_pos hc, List.getElem?_zip_eq_some]
        exact ⟨hp, hl⟩)
      unfold keepC
      rw [hp]
      simpa [hxv] using this
    have keep : ∀ b o, dropTags p T b o ≠ .free → dropTags p T b o = T b o := fun b o e => (dropTag_or p (T b o)).resolve_right e
    refine ⟨dropTags p T, σ', ?_, hb, ⟨⟨?_, ?_, ?_, ?_, ?_, ?_, ?_, ?_⟩, ?_, hR.nt, ?_, ?_, hR.nodup, hR.round, by rw [dropTags_fix]; exact hR.glob⟩⟩
    · refine ⟨rfl, rfl, rfl, Nat.le_refl _, fun b o v e => by unfold dropTags; rw [e]; rfl, fun b o _ e => by unfold dropTags; rw [e]; rfl, fun _ _ _ _ => ⟨rfl, rfl⟩, fun _ _ _ => rfl⟩
    · intro b o v e; exact hR.inv.fixed b o v (by rw [← keep b o (by rw [e]; simp)]; exact e)
    · intro b o l j e; exact hR.inv.spare b o l j (by rw [← keep b o (by rw [e]; simp)]; exact e)
    · intro b o e; exact hR.inv.live b o (by rw [← keep b o e]; exact e)
    · intro c b e
      have e' : (if keepC p c = true then σ c else none) = some b := e
      split at e'
      · rename_i hk
        have hk0 := hk
        unfold keepC at hk
        cases hp : p.heap[c]? with
        | none => rw [hp] at hk; cases hk
        | some t =>
          rw [hp] at hk
          obtain ⟨cell, y, k1, k2, k3⟩ := g2 c t hp
          cases t with
          | var l => exact ⟨_, k3, rfl⟩
          | row e => exact ⟨_, k3, rfl⟩
          | gone => exact ⟨_, k3, rfl⟩
          | empty => cases hk
          | map _ _ => cases hk
      · cases e'
    · intro c l hc
      obtain ⟨t, cell, y, k1, k2, k3, k4⟩ := g1 c _ hc
      cases t with
      | empty => simp [CT.unpack] at k4
      | map _ _ => simp [CT.unpack] at k4
      | row _ => simp [CT.unpack] at k4
      | gone => simp [CT.unpack] at k4
      | var at' =>
        simp only [CT.unpack, Cell.var.injEq] at k4
        subst k4
        cases cell with
        | empty => simp [CT.pack] at k3
        | map _ _ _ => simp [CT.pack] at k3
        | row _ _ => simp [CT.pack] at k3
        | gone => simp [CT.pack] at k3
        | var vs =>
          simp only [CT.pack] at k3
          have hk : keepC p c = true := by unfold keepC; rw [k1]; rfl
          obtain ⟨b, e1, e2, e3⟩ := hR.inv.var c vs k2
          refine ⟨b, hσ c hk b e1, e2, fun j av hj => ?_⟩
          obtain ⟨a0, v0, y0, f1, f2, f3, rfl⟩ := packAT_get at' k3 j av hj
          obtain ⟨v, q1, q2, q3, q4⟩ := e3 j v0 f2
          refine ⟨v, q1, q2, by unfold dropTags; rw [q3]; simp only [dropTag, hk, if_true], ?_⟩
          rw [dropTags_fix]
          refine (a0.rep f3 q4 fun c' hc' b' e' => hσ c' (hptr' c' (.inr ?_)) b' e').mono (Fix.le.refl _) (fun _ _ x => x) (fun _ _ x => x) fun q b o e => ?_
          · rw [List.mem_flatMap]
            exact ⟨.var at', List.mem_of_getElem? k1, by rw [CT.ptrs, List.mem_flatMap]; exact ⟨a0, f1, hc'⟩⟩
          · have e' : T b o = .spare (.leaf c j) q := e
            show dropTags p T b o = _
            unfold dropTags; rw [e']; simp only [dropTag, hk, if_true]
    · intro c x hc
      obtain ⟨t, cell, y, k1, k2, k3, rfl⟩ := g1 c _ hc
      cases t with
      | empty => trivial
      | gone => trivial
      | var _ => trivial
      | map k e =>
        cases cell with
        | map _ _ _ => exact (hR.inv.mem c _ k2).elim
        | _ => simp [CT.pack, Cell.asMap] at k3
      | row e =>
        cases cell with
        | row e' l =>
          simp only [CT.pack, Cell.asRow] at k3
          split at k3
          · rename_i he
            subst he
            cases k3
            have hk : keepC p c = true := by unfold keepC; rw [k1]; rfl
            refine (hR.inv.mem c _ k2).keep (hσ c hk) (by rw [dropTags_fix]; exact Fix.le.refl _) (fun b k e => ⟨?_, rfl, rfl⟩) fun b k e => ?_
            · unfold dropTags; rw [e]; simp only [dropTag, hk, if_true]
            · unfold dropTags; rw [e]; simp only [dropTag, hk, if_true]
          · cases k3
        | _ => simp [CT.pack, Cell.asRow] at k3
    · show p.pend.length = _ ∧ _
      rw [← hpend]; exact hR.inv.plen
    · intro i r hr
      obtain ⟨b, rec, e1, e2, e3, e4, e5, e6, e7, e8, e9, e10⟩ := hR.inv.loop i r hr
      refine ⟨b, rec, e1, by unfold dropTags; rw [e2]; rfl, e3, e4, e5, e6, e7, e8, fun t => ?_, by show (p.pend[i]?).map loopState = _; rw [← hpend]; exact e10⟩
      rw [dropTags_fix]
      exact (e9 t).cut (Fix.le.refl _) (fun _ _ _ x => x) fun q hq b' e' => hb q (hA r (List.mem_of_getElem? hr) q (mem_getT hq)) b' e'
    · show (unpackTm A.nt p.tmps x1).length = _
      rw [unpackTm_length]; exact hR.nt.symm
    · intro t
      rw [dropTags_fix]
      refine (unpackTm_rep (ow := fun t => T.own (.tmp t)) hR.tm p.tmps h1 (fun c hc b e => hσ c (hptr' c (.inl hc)) b e) t).mono (Fix.le.refl _) (fun _ _ x => x) (fun _ _ x => x) fun q b o e => ?_
      have e' : T b o = .spare (.tmp t) q := e
      show dropTags p T b o = _
      unfold dropTags; rw [e']; rfl
    · intro d hd
      obtain ⟨D, e1, e2, e3⟩ := hR.marks d hd
      exact ⟨D, e1, e2, fun o => by unfold dropTags; rw [e3]; rfl⟩
  · cases h

theorem Rel.pack (hR : Rel X T σ lm A ro s a w) (hA : AmbOk A) {p : Tpl} {x : p.ty.den} (h : p.pack A.base s = some x) : GoTo X T σ lm A ro w (p.unpack A.nt x) a w := by
  obtain ⟨T1, σ1, K1, m1, R1⟩ := Rel.align hA p _ hR
  exact GoTo.trans K1 m1 (R1.pack0 hA h)

def landOf (n : Nat) (l : List (AE × Tpl)) (y : (exitsTy l).den) : Option (AE × St) := unpackEx n l y fun e s => some (e, s)
theorem unpackEx_land {R : Type} {n : Nat} : ∀ (l : List (AE × Tpl)) (y : (exitsTy l).den) (k : AE → St → Option R), unpackEx n l y k = (landOf n l y).bind fun p => k p.1 p.2 := by
  intro l
  induction l with
  | nil => intro y k; rfl
  | cons a l ih =>
    intro y k
    cases l with
    | nil => rfl
    | cons b l =>
      cases y with
      | inl x => rfl
      | inr y => exact ih y k

theorem packEx_some {n : Nat} {bs : Nat} {e : AE} : ∀ (l : List (AE × Tpl)) {y : (exitsTy l).den}, packEx l bs e s = some y → ∃ p x, Tpl.pack p bs s = some x ∧ landOf n l y = some (e, p.unpack n x) := by
  intro l
  induction l with
  | nil => intro y h; cases h
  | cons a l ih =>
    intro y h
    cases l with
    | nil =>
      simp only [packEx] at h
      split at h
      · rename_i he
        exact ⟨a.2, y, h, by simp [landOf, unpackEx, he]⟩
      · cases h
    | cons b l =>
      simp only [packEx] at h
      split at h
      · rename_i he
        cases hx : a.2.pack bs s with
        | some x =>
          simp only [hx] at h
          cases h
          exact ⟨a.2, x, hx, by simp [landOf, unpackEx, he]⟩
        | none =>
          simp only [hx] at h
          obtain ⟨z, h1, h⟩ := bind_some h
          cases h
          obtain ⟨p, x, h2, h3⟩ := ih h1
          exact ⟨p, x, h2, h3⟩
      · obtain ⟨z, h1, h⟩ := bind_some h
        cases h
        obtain ⟨p, x, h2, h3⟩ := ih h1
        exact ⟨p, x, h2, h3⟩

theorem Rel.packEx (hR : Rel X T σ lm A ro s a w) (hA : AmbOk A) {l : List (AE × Tpl)} {e : AE} {y : (exitsTy l).den} (h : packEx l A.base e s = some y) : ∃ s', landOf A.nt l y = some (e, s') ∧ GoTo X T σ lm A ro w s' a w := by
  obtain ⟨p, x, h1, h2⟩ := packEx_some (n := A.nt) l h
  exact ⟨_, h2, hR.pack hA h1⟩
end
end Go.Am

/-
  THE ABSTRACT MACHINE: a loop's record turned; the marks of loops over functions.
-/
namespace Go.Am
open Go

def noCells : Obj → Prop
  | .cells .. => False
  | _ => True

theorem cell_putObj {w : World} {b x y : Nat} {ob ob' : Obj} (hh : w.heap[b]? = some ob) (hn : noCells ob) (hn' : noCells ob') :
    (w.putObj b ob').cell? ⟨x, y, none⟩ = w.cell? ⟨x, y, none⟩ ∧ (w.putObj b ob').frozen? ⟨x, y, none⟩ = w.frozen? ⟨x, y, none⟩ := by
  by_cases hx : x = b
  · subst hx
    have hlt : x < w.heap.size := (Array.getElem?_eq_some_iff.1 hh).1
    simp only [World.cell?, World.frozen?, World.putObj_heap_same hlt, hh]
    cases ob <;> cases ob' <;> first | exact ⟨rfl, rfl⟩ | exact hn.elim | exact hn'.elim
  · simp only [World.cell?, World.frozen?, World.putObj_heap_other hx, and_self]

section
variable {T : Tags} {σ lm : Nat → Option Nat} {h : List Cell} {ls : List LoopRec} {ps : List (Option AE)} {w : World}

/-- Blocks without cells that are ours may turn. -/
theorem keeps_putObj {T' : Tags} {b : Nat} {ob ob' : Obj} (hh : w.heap[b]? = some ob) (hn : noCells ob) (hn' : noCells ob') (hm : ∃ o, (T b o).mine = true)
    (hf : ∀ b o v, T b o = .fixed v → T' b o = .fixed v) (hfr : ∀ b o, T b o = .free → T' b o = .free) : Keeps T w T' (w.putObj b ob') := {
  os := rfl
  tape := rfl
  output := rfl
  size := by simp
  fixed := hf
  free := fun b o _ => hfr b o
  cell := fun x o _ _ => cell_putObj hh hn hn'
  block := fun x _ hx => by
    refine World.putObj_heap_other fun e => ?_
    subst e
    obtain ⟨o, ho⟩ := hm
    rw [hx o] at ho; cases ho }

theorem loop_block_inj (I : Inv T σ lm h ls ps w) {i j : Nat} {b : Nat} {r r' : LoopRec} (hi : ls[i]? = some r) (hj : ls[j]? = some r') (h1 : lm i = some b) (h2 : lm j = some b) : i = j := by
  obtain ⟨b1, _, e1, e2, _⟩ := I.loop i r hi
  obtain ⟨b2, _, f1, f2, _⟩ := I.loop j r' hj
  rw [h1] at e1; cases e1
  rw [h2] at f1; cases f1
  rw [e2] at f2
  cases f2; rfl

theorem Inv.putLoop (I : Inv T σ lm h ls ps w) {l b : Nat} {r : LoopRec} {rec : Loop} {st : LoopState} {pd : Option Code} {p : Option AE} (hr : ls[l]? = some r) (hb : lm l = some b) (hh : w.heap[b]? = some (.loop rec)) (hp : loopState p = (st, pd)) :
    Inv T σ lm h ls (ps.set l p) (w.putObj b (.loop { rec with state := st, pending := pd })) := by
  have hc := fun x y => cell_putObj (w := w) (x := x) (y := y) (ob' := .loop { rec with state := st, pending := pd }) hh trivial trivial
  have hlt : b < w.heap.size := (Array.getElem?_eq_some_iff.1 hh).1
  refine ⟨?_, ?_, ?_, I.dom, ?_, fun c x hx => (I.mem c x hx).keep (fun _ h => h) (Fix.le.refl _) (fun b k e => ⟨e, hc b k⟩) (fun _ _ e => e), ?_, ?_⟩
  · intro x o v e; rw [(hc x o).1]; exact I.fixed x o v e
  · intro x o m j e; rw [(hc x o).1, (hc x o).2]; exact I.spare x o m j e
  · intro x o e; rw [World.putObj_size]; exact I.live x o e
  · intro c q hq
    obtain ⟨x, h1, h2, h3⟩ := I.var c q hq
    refine ⟨x, h1, by rw [World.putObj_size]; exact h2, fun j av hj => ?_⟩
    obtain ⟨v, e1, e2, e3, e4⟩ := h3 j av hj
    exact ⟨v, by rw [(hc x j).1]; exact e1, by rw [(hc x j).2]; exact e2, e3, e4⟩
  · rw [List.length_set]; exact I.plen
  · intro i r' hr'
    by_cases hil : i = l
    · subst hil
      rw [hr] at hr'; cases hr'
      obtain ⟨x, rec', e1, e2, e3, e4, e5, e6, e7, e8, e9, e10⟩ := I.loop i r hr
      rw [hb] at e1; cases e1
      rw [hh] at e3; cases e3
      refine ⟨b, _, hb, e2, World.putObj_heap_same hlt, e4, e5, e6, e7, e8, e9, ?_⟩
      rw [List.getElem?_set, if_pos rfl, if_pos (by rw [I.plen.1]; exact lt_of_get hr)]
      simp [hp]
    · obtain ⟨x, rec', e1, e2, e3, e4, e5, e6, e7, e8, e9, e10⟩ := I.loop i r' hr'
      have hne : x ≠ b := fun e => hil (loop_block_inj I hr' hr (by rw [e1, e]) hb)
      refine ⟨x, rec', e1, e2, by rw [World.putObj_heap_other hne]; exact e3, e4, e5, e6, e7, e8, e9, ?_⟩
      rw [List.getElem?_set_ne (fun e => hil e.symm)]; exact e10

/-- A mark's block turns. -/
theorem Inv.putMark (I : Inv T σ lm h ls ps w) {D : Nat} {ob ob' : Obj} (hh : w.heap[D]? = some ob) (hn : noCells ob) (hn' : noCells ob') (hm : ∀ o, T D o = .mark) : Inv T σ lm h ls ps (w.putObj D ob') := by
  have hc := fun x y => cell_putObj (w := w) (x := x) (y := y) (ob' := ob') hh hn hn'
  refine ⟨?_, ?_, ?_, I.dom, ?_, fun c x hx => (I.mem c x hx).keep (fun _ h => h) (Fix.le.refl _) (fun b k e => ⟨e, hc b k⟩) (fun _ _ e => e), I.plen, ?_⟩
  · intro x o v e; rw [(hc x o).1]; exact I.fixed x o v e
  · intro x o m j e; rw [(hc x o).1, (hc x o).2]; exact I.spare x o m j e
  · intro x o e; rw [World.putObj_size]; exact I.live x o e
  · intro c q hq
    obtain ⟨x, h1, h2, h3⟩ := I.var c q hq
    refine ⟨x, h1, by rw [World.putObj_size]; exact h2, fun j av hj => ?_⟩
    obtain ⟨v, e1, e2, e3, e4⟩ := h3 j av hj
    exact ⟨v, by rw [(hc x j).1]; exact e1, by rw [(hc x j).2]; exact e2, e3, e4⟩
  · intro i r hr
    obtain ⟨x, rec', e1, e2, e3, e4⟩ := I.loop i r hr
    have hne : x ≠ D := fun e => by rw [e, hm] at e2; cases e2
    exact ⟨x, rec', e1, e2, by rw [World.putObj_heap_other hne]; exact e3, e4⟩
end

section
variable {F : Fix} {σ lm lm' : Nat → Option Nat}
mutual
theorem Rep.calm {ow : Own} {v : AV} {u : Value} (h : Rep F σ lm ow v u) (hc : v.calm = true) : Rep F σ lm' ow v u := by
  cases h with
  | int _ k n => exact .int ..
  | bool _ b => exact .bool ..
  | str _ s => exact .str ..
  | slice _ own e xs a cap h1 h2 h3 => exact .slice _ _ _ _ _ _ h1 h2 h3
  | nil => exact .nil _
  | ptr _ c off b h => exact .ptr _ _ _ _ h
  | nilptr => exact .nilptr _
  | cptr _ l a vs h hx => exact .cptr _ _ _ _ (RepL.calm h (by simpa [AV.calm] using hc)) hx
  | func _ g a b va vb ha hb =>
    simp only [AV.calm, Bool.and_eq_true] at hc
    exact .func _ _ _ _ _ _ (RepL.calm ha hc.1) (RepL.calm hb hc.2)
  | yield _ l r h => simp [AV.calm] at hc
  | nilfunc => exact .nilfunc _
  | map _ c b h => exact .map _ _ _ h
  | nilmap => exact .nilmap _
  | iface _ t v u h => exact .iface _ _ _ _ (Rep.calm h (by simpa [AV.calm] using hc))
  | niliface => exact .niliface _
  | agg _ l vs h => exact .agg _ _ _ (RepL.calm h (by simpa [AV.calm] using hc))
  | tuple _ l vs h => exact .tuple _ _ _ (RepC.calm h (by simpa [AV.calm] using hc))
  | hs _ c e lo len u h => exact .hs _ _ _ _ _ _ h
  | rptr _ c e i off p h => exact .rptr _ _ _ _ _ _ h
  | void _ a => exact .void _ _
  | top _ v => exact .top _ _
theorem RepL.calm {l : List AV} {vs : List Value} (h : RepL F σ lm l vs) (hc : calmL l = true) : RepL F σ lm' l vs := by
  cases h with
  | nil => exact .nil
  | cons a v l vs h t =>
    simp only [calmL, Bool.and_eq_true] at hc
    exact .cons _ _ _ _ (Rep.calm h hc.1) (RepL.calm t hc.2)
theorem RepC.calm {ow : Own} {j : Nat} {l : List AV} {vs : List Value} (h : RepC F σ lm ow j l vs) (hc : calmL l = true) : RepC F σ lm' ow j l vs := by
  cases h with
  | nil => exact .nil _ _
  | cons _ _ a v l vs h t =>
    simp only [calmL, Bool.and_eq_true] at hc
    exact .cons _ _ _ _ _ _ (Rep.calm h hc.1) (RepC.calm t hc.2)
end
theorem calm_get {l : List AV} (h : calmL l = true) {i : Nat} {v : AV} (hi : l[i]? = some v) : v.calm = true := by
  induction l generalizing i with
  | nil => simp at hi
  | cons x l ih =>
    simp only [calmL, Bool.and_eq_true] at h
    cases i with
    | zero => simp at hi; subst hi; exact h.1
    | succ i => exact ih h.2 (by simpa using hi)
theorem calm_getT {l : List AV} (h : calmL l = true) (t : Nat) : (getT l t).calm = true := by
  unfold getT
  rw [List.getD_eq_getElem?_getD]
  cases e : l[t]? with
  | none => rfl
  | some v => exact calm_get h e
end

section
variable {X : Ext} {T : Tags} {σ lm : Nat → Option Nat} {A : Amb} {ro : Option Nat} {s : St} {a : Act} {w : World}
theorem Rel.putLoop (hR : Rel X T σ lm A ro s a w) {l b : Nat} {r : LoopRec} {rec : Loop} {st : LoopState} {pd : Option Code} {p : Option AE} (hr : A.loops[l]? = some r) (hb : lm l = some b) (hh : w.heap[b]? = some (.loop rec)) (hp : loopState p = (st, pd)) :
    Keeps T w T (w.putObj b (.loop { rec with state := st, pending := pd })) ∧ Rel X T σ lm A ro { s with pend := s.pend.set l p } a (w.putObj b (.loop { rec with state := st, pending := pd })) := by
  obtain ⟨x, rec', e1, e2, e3, _⟩ := hR.inv.loop l r hr
  rw [hb] at e1; cases e1
  refine ⟨keeps_putObj hh trivial trivial ⟨0, by rw [e2]; rfl⟩ (fun _ _ _ e => e) (fun _ _ e => e), ⟨hR.inv.putLoop hr hb hh hp, hR.len, hR.nt, hR.tm, fun d hd => ?_, hR.nodup, hR.round, hR.glob⟩⟩
  obtain ⟨D, f1, f2, f3⟩ := hR.marks d hd
  exact ⟨D, f1, by rw [World.putObj_heap_other (fun e => by rw [e] at f3; have := f3 0; rw [e2] at this; cases this)]; exact f2, f3⟩

/-! ### The statement: its record, and the end -/
def enterTags (T : Tags) (n L : Nat) : Tags := (T.new n fun _ => .mark).new (n + 1) fun o => if o = 0 then .loop L else .free
def enterLm (lm : Nat → Option Nat) (L b : Nat) : Nat → Option Nat := fun i => if i = L then some b else lm i
def enterWorld (w : World) (fn : FuncId) (tmps : Array Value) (ps : Array Tmp) (assign body : Code) : World :=
  (w.alloc (.deferred (some []))).alloc (.loop { state := .ready, pending := none, fn, tmps, params := ps, assign, body, defers := w.heap.size })

theorem Inv.enter (hR : Rel X T σ lm A ro s a w) (fn fn' : FuncId) (ps : Array Tmp) (assign body : Code) (hL : s.pend.length = A.loops.length) :
    Inv (enterTags T w.heap.size A.loops.length) σ (enterLm lm A.loops.length (w.heap.size + 1)) s.heap (A.loops ++ [{ fn := fn', tmps := s.tmps.map AV.dull, params := ps.toList, assign := assign, body := body }]) (s.pend ++ [none]) (enterWorld w fn a.tmps ps assign body) ∧
    Keeps T w (enterTags T w.heap.size A.loops.length) (enterWorld w fn a.tmps ps assign body) := by
  have I1 := hR.inv.alloc (.deferred (some [])) (fun _ => .mark) (fun o v e => by cases e) (fun o l j e => by cases e)
  have K1 := hR.inv.keeps_alloc (.deferred (some [])) (fun _ => .mark)
  have hsz : (w.alloc (.deferred (some []))).heap.size = w.heap.size + 1 := by simp
  have I2 := I1.alloc (.loop { state := .ready, pending := none, fn, tmps := a.tmps, params := ps, assign, body, defers := w.heap.size }) (fun o => if o = 0 then .loop A.loops.length else .free) (fun o v e => by split at e <;> cases e) (fun o l j e => by split at e <;> cases e)
  have K2 := I1.keeps_alloc (.loop { state := .ready, pending := none, fn, tmps := a.tmps, params := ps, assign, body, defers := w.heap.size }) (fun o => if o = 0 then .loop A.loops.length else .free)
  rw [hsz] at I2 K2
  refine ⟨?_, K1.trans K2⟩
  have hlm : ∀ i b, lm i = some b → enterLm lm A.loops.length (w.heap.size + 1) i = some b := fun i b e => by
    unfold enterLm
    rw [if_neg]; exact e
    intro h
    have := hR.inv.plen.2 i b e
    omega
  have hle : Fix.le T.fix (enterTags T w.heap.size A.loops.length).fix := fun b o v e => by
    have := hR.inv.le_new (fun _ => .mark) b o v e
    have h2 := I1.le_new (fun o => if o = 0 then .loop A.loops.length else .free) b o v this
    rw [hsz] at h2; exact h2
  refine ⟨I2.fixed, I2.spare, I2.live, I2.dom, fun c l hc => ?_, I2.mem, ⟨by simp [hL], fun i b e => ?_⟩, fun i r hr => ?_⟩
  · obtain ⟨b, h1, h2, h3⟩ := I2.var c l hc
    refine ⟨b, h1, h2, fun j av hj => ?_⟩
    obtain ⟨v, e1, e2, e3, e4⟩ := h3 j av hj
    exact ⟨v, e1, e2, e3, e4.mono (Fix.le.refl _) (fun _ _ x => x) hlm (fun _ _ _ x => x)⟩
  · unfold enterLm at e
    split at e
    · rename_i hi; subst hi; simp
    · have := hR.inv.plen.2 i b e; simp; omega
  · rw [List.getElem?_append] at hr
    split at hr
    · rename_i hi
      obtain ⟨b, rec, e1, e2, e3, e4, e5, e6, e7, e8, e9, e10⟩ := I2.loop i r hr
      refine ⟨b, rec, hlm i b e1, e2, e3, e4, e5, e6, e7, e8, fun t => (e9 t).mono (Fix.le.refl _) (fun _ _ x => x) hlm (fun _ _ _ x => x), ?_⟩
      rw [List.getElem?_append_left (by omega)]; exact e10
    · rename_i hi
      have hi0 : i - A.loops.length = 0 := by
        have := lt_of_get hr
        simp at this; omega
      have hiL : i = A.loops.length := by omega
      rw [hi0] at hr
      simp at hr
      subst hr; subst hiL
      refine ⟨w.heap.size + 1, { state := .ready, pending := none, fn, tmps := a.tmps, params := ps, assign, body, defers := w.heap.size }, by simp [enterLm], by simp [enterTags, Tags.new], ?_, trivial, by simp, rfl, rfl, by simp [hR.len], fun t => ?_, by rw [← hL]; simp [loopState]⟩
      · unfold enterWorld
        have := World.alloc_heap_new (w.alloc (.deferred (some []))) (.loop { state := .ready, pending := none, fn, tmps := a.tmps, params := ps, assign, body, defers := w.heap.size })
        rw [hsz] at this; exact this
      · have hd : getT (s.tmps.map AV.dull) t = (getT s.tmps t).dull := by
          unfold getT
          rw [List.getD_eq_getElem?_getD, List.getD_eq_getElem?_getD, List.getElem?_map]
          cases s.tmps[t]? <;> rfl
        simp only [hd]
        exact ((hR.tm t).dull (ow' := noOwn)).mono hle (fun _ _ x => x) hlm (fun _ _ _ x => x)

def leaveTags (T : Tags) (l : Nat) : Tags := fun b o => if b = l then .free else T b o

/-- The function has returned: the statement is left. -/
theorem Rel.leave {T' : Tags} {σ' : Nat → Option Nat} {w3 : World} {h' : List Cell} {ps' : List (Option AE)} {fn fn' : FuncId} {ps : Array Tmp} {assign body : Code} {p : Option AE} (hR : Rel X T σ lm A ro s a w) (hrd : ro = none) (hL : s.pend.length = A.loops.length)
    (C : CallPost (enterTags T w.heap.size A.loops.length) σ (enterWorld w fn a.tmps ps assign body) s.heap T' σ' (enterLm lm A.loops.length (w.heap.size + 1)) w3 h' (A.loops ++ [{ fn := fn', tmps := s.tmps.map AV.dull, params := ps.toList, assign := assign, body := body }]) ps')
    (hp : ps'[A.loops.length]? = some p) (hb : p ≠ some .normal) (hcalm : ∀ x ∈ h', x.calm = true) (hcalm2 : ∀ r ∈ A.loops, calmL r.tmps = true) :
    ∃ w4, (Instr.endLoop (w.heap.size + 1)).run X.P w3 = .ok (loopState p).2 w4 ∧
      StepTo X T σ lm A ro w { s with heap := h', pend := ps'.take A.loops.length } { a with defers := [{ target := .collected w.heap.size, args := #[] }] ++ a.defers } w4 := by
  obtain ⟨I1, K1⟩ := Inv.enter hR fn fn' ps assign body hL
  have hlast : (A.loops ++ [({ fn := fn', tmps := s.tmps.map AV.dull, params := ps.toList, assign := assign, body := body } : LoopRec)])[A.loops.length]? = some { fn := fn', tmps := s.tmps.map AV.dull, params := ps.toList, assign := assign, body := body } := by simp
  obtain ⟨b, rec, e1, e2, e3, e4, e5, e6, e7, e8, e9, e10⟩ := C.inv.loop _ _ hlast
  have hbe : b = w.heap.size + 1 := by simp [enterLm] at e1; exact e1.symm
  subst hbe
  rw [hp] at e10
  simp only [Option.map_some, Option.some.injEq] at e10
  have hst : rec.state ≠ .busy ∧ rec.pending = (loopState p).2 := by
    rw [e10]
    refine ⟨fun hbz => ?_, rfl⟩
    have hx : (loopState p).1 = .busy := by rw [e10]; exact hbz
    cases p with
    | none => simp [loopState] at hx
    | some e => cases e <;> first | exact hb rfl | simp [loopState] at hx
  have hsize : (enterWorld w fn a.tmps ps assign body).heap.size = w.heap.size + 2 := by simp [enterWorld]
  have hoff : ∀ o, T' (w.heap.size + 1) o ≠ .mark ∧ (∀ v, T' (w.heap.size + 1) o ≠ .fixed v) := by
    intro o
    refine ⟨fun h => ?_, fun v h => ?_⟩
    · by_cases ho : o = 0
      · subst ho; rw [e2] at h; cases h
      · have := C.keeps.free (w.heap.size + 1) o (by omega) (by simp [enterTags, Tags.new, ho])
        rw [this] at h; cases h
    · have := C.inv.fixed _ o v h
      simp [World.cell?, e3] at this
  refine ⟨w3.putObj (w.heap.size + 1) (.loop { rec with state := .exhausted }), ?_, ?_⟩
  · rw [run_endLoop e3 hst.1, hst.2]
  have hc := fun x y => cell_putObj (w := w3) (x := x) (y := y) (ob' := .loop { rec with state := .exhausted }) e3 trivial trivial
  have hle : Fix.le T'.fix (leaveTags T' (w.heap.size + 1)).fix := fun x o v e => by
    rw [Tags.fix_eq] at e ⊢
    unfold leaveTags
    rw [if_neg]; exact e
    intro h; subst h; exact (hoff o).2 v e
  have hleT : Fix.le T.fix T'.fix := fun x o v e => by
    rw [Tags.fix_eq] at e ⊢
    exact C.keeps.fixed _ _ _ (K1.fixed _ _ _ e)
  have hs : ∀ c x, σ c = some x → σ' c = some x := fun c x e => by
    obtain ⟨l, hl, _⟩ := hR.inv.dom c x e
    exact C.sig c (lt_of_get hl) x e
  have hK3 : Keeps T' w3 (leaveTags T' (w.heap.size + 1)) (w3.putObj (w.heap.size + 1) (.loop { rec with state := .exhausted })) := by
    refine keeps_putObj e3 trivial trivial ⟨0, by rw [e2]; rfl⟩ (fun x o v e => ?_) (fun x o e => ?_)
    · unfold leaveTags
      rw [if_neg]; exact e
      intro h; subst h; exact (hoff o).2 v e
    · unfold leaveTags; split
      · rfl
      · exact e
  have hlm : ∀ i x, i < A.loops.length → enterLm lm A.loops.length (w.heap.size + 1) i = some x → lm i = some x := fun i x hi e => by
    unfold enterLm at e
    rw [if_neg (by omega)] at e; exact e
  refine ⟨leaveTags T' (w.heap.size + 1), σ', (K1.trans C.keeps).trans hK3, hs, ⟨⟨?_, ?_, ?_, C.inv.dom, ?_, ?_, ?_, ?_⟩, hR.len, hR.nt, ?_, ?_, ?_, hR.round, hR.glob.mono fun x o v e => hle x o v (hleT x o v e)⟩⟩
  · intro x o v e
    unfold leaveTags at e
    split at e
    · cases e
    · rw [(hc x o).1]; exact C.inv.fixed x o v e
  · intro x o m j e
    unfold leaveTags at e
    split at e
    · cases e
    · rw [(hc x o).1, (hc x o).2]; exact C.inv.spare x o m j e
  · intro x o e
    unfold leaveTags at e
    split at e
    · exact absurd rfl e
    · rw [World.putObj_size]; exact C.inv.live x o e
  · intro c q hq
    obtain ⟨x, h1, h2, h3⟩ := C.inv.var c q hq
    refine ⟨x, h1, by rw [World.putObj_size]; exact h2, fun j av hj => ?_⟩
    obtain ⟨v, f1, f2, f3, f4⟩ := h3 j av hj
    have hne : x ≠ w.heap.size + 1 := fun e => by
      subst e
      simp [World.cell?, e3] at f1
    have hcl : av.calm = true := calm_get (hcalm _ (List.mem_of_getElem? hq)) hj
    refine ⟨v, by rw [(hc x j).1]; exact f1, by rw [(hc x j).2]; exact f2, by unfold leaveTags; rw [if_neg hne]; exact f3, (f4.mono hle (fun _ _ x => x) (fun _ _ x => x) fun q b' o' e => ?_).calm hcl⟩
    have e' : T' b' o' = .spare (.leaf c j) q := e
    show leaveTags T' _ b' o' = _
    unfold leaveTags
    rw [if_neg]; exact e'
    intro h; subst h
    have := (C.inv.spare _ _ _ _ e').1
    simp [World.cell?, e3] at this
  · intro c x hx
    refine (C.inv.mem c x hx).keep (fun _ h => h) hle (fun b k e => ⟨?_, hc b k⟩) fun b k e => ?_
    · unfold leaveTags
      rw [if_neg]; exact e
      intro h; subst h
      by_cases ho : k = 0
      · subst ho; rw [e2] at e; cases e
      · have := C.keeps.free (w.heap.size + 1) k (by omega) (by simp [enterTags, Tags.new, ho])
        rw [this] at e; cases e
    · unfold leaveTags
      rw [if_neg]; exact e
      intro h; subst h
      have := (C.inv.spare _ _ _ _ e).1
      simp [World.cell?, e3] at this
  · have h1 := C.inv.plen.1
    simp at h1
    exact ⟨by simp; omega, hR.inv.plen.2⟩
  · intro i r hr
    have hi := lt_of_get hr
    obtain ⟨x, rec', f1, f2, f3, f4, f5, f6, f7, f8, f9, f10⟩ := C.inv.loop i r (by rw [List.getElem?_append_left hi]; exact hr)
    have hne : x ≠ w.heap.size + 1 := fun e => by
      subst e; rw [e2] at f2; cases f2; omega
    refine ⟨x, rec', hlm i x hi f1, by unfold leaveTags; rw [if_neg hne]; exact f2, by rw [World.putObj_heap_other hne]; exact f3, f4, f5, f6, f7, f8, fun t => ?_, by rw [List.getElem?_take, if_pos hi]; exact f10⟩
    exact ((f9 t).mono hle (fun _ _ x => x) (fun _ _ x => x) (fun _ _ _ x => x)).calm (calm_getT (hcalm2 r (List.mem_of_getElem? hr)) t)
  · intro t
    refine (hR.tm t).mono (fun x o v e => hle x o v (hleT x o v e)) hs (fun _ _ x => x) fun q b' o' e => ?_
    have e' : T b' o' = .spare (.tmp t) q := e
    have hlt : b' < w.heap.size := hR.inv.live b' o' (by rw [e']; simp)
    have h1 : enterTags T w.heap.size A.loops.length b' o' = .spare (.tmp t) q := by
      simp only [enterTags, Tags.new]
      rw [if_neg (by omega), if_neg (by omega)]; exact e'
    show leaveTags T' _ b' o' = _
    unfold leaveTags
    rw [if_neg (by omega)]
    exact C.tmp _ _ _ _ h1
  · intro d hd
    rcases List.mem_append.1 hd with hd | hd
    · simp at hd
      subst hd
      have hm : ∀ o, enterTags T w.heap.size A.loops.length w.heap.size o = .mark := fun o => by simp [enterTags, Tags.new]
      obtain ⟨k1, k2⟩ := C.mark w.heap.size (by omega) hm
      refine ⟨w.heap.size, rfl, ?_, fun o => by unfold leaveTags; rw [if_neg (by omega)]; exact k1 o⟩
      rw [World.putObj_heap_other (by omega), k2]
      unfold enterWorld
      rw [heap_alloc_lt (by simp)]
      exact World.alloc_heap_new w _
    · obtain ⟨D, f1, f2, f3⟩ := hR.marks d hd
      have hlt : D < w.heap.size := hR.inv.live D 0 (by rw [f3]; simp)
      have hm : ∀ o, enterTags T w.heap.size A.loops.length D o = .mark := fun o => by
        simp only [enterTags, Tags.new]
        rw [if_neg (by omega), if_neg (by omega)]; exact f3 o
      obtain ⟨k1, k2⟩ := C.mark D (by omega) hm
      refine ⟨D, f1, ?_, fun o => by unfold leaveTags; rw [if_neg (by omega)]; exact k1 o⟩
      rw [World.putObj_heap_other (by omega), k2]
      unfold enterWorld
      rw [heap_alloc_lt (by simp; omega), heap_alloc_lt hlt]
      exact f2
  · refine List.pairwise_append.2 ⟨by simp, hR.nodup, fun d hd d' hd' D D' h1 h2 e => ?_⟩
    simp at hd
    subst hd
    simp at h1
    subst h1; subst e
    obtain ⟨D2, f1, f2, f3⟩ := hR.marks d' hd'
    rw [f1] at h2
    simp at h2
    subst h2
    exact absurd (hR.inv.live _ 0 (by rw [f3]; simp)) (Nat.lt_irrefl _)
end
end Go.Am

/-
  THE ABSTRACT MACHINE: code.
-/
namespace Go.Am
open Go
variable {X : Ext} {rec : Rec}

def exitOf : AE → Exit
  | .normal => .normal
  | .exit id => .exit id
  | .ret => .ret

/-- A loop that is about to begin a round. -/
def LoopAt (F : Fence) (P : Program) (c : Code) (Q : Exit → Act → World → Prop) (a : Act) (w : World) : Prop :=
  ∀ (b : Frame) (k : List Item) (cs : List Frame), b.roundOf = F.round → F.fn b.fn → F.room (cs.length + 1 + 0) →
    ∃ e a' w', Q e a' w' ∧ ArrivesIn (Machine.fenced P F) P (lone (b.atR a (.code c :: .inLoop c :: k)) cs w) b k cs e a' w'

theorem loop_of_at {F : Fence} {P : Program} {c : Code} {Q : Exit → Act → World → Prop} {a : Act} {w : World} (h : LoopAt F P c Q a w) : (Code.loop c).wpIn F 0 P Q a w := by
  intro b k cs hro hb hr
  obtain ⟨e, a', w', hq, harr⟩ := h b k cs hro hb hr
  exact ⟨e, a', w', hq, .of_steps (.one (fenced_calm hb hr rfl) stepR_loop) harr⟩

theorem at_step {F : Fence} {P : Program} {c : Code} {Q : Exit → Act → World → Prop} {a : Act} {w : World} (h : c.wpIn F 0 P (Exit.then (LoopAt F P c Q) Q) a w) : LoopAt F P c Q a w := by
  intro b k cs hro hb hr
  obtain ⟨e, a₁, w₁, hq, harr⟩ := h b (.inLoop c :: k) cs hro hb hr
  cases e with
  | normal =>
    obtain ⟨e₂, a₂, w₂, hq₂, harr₂⟩ := hq b k cs hro hb hr
    exact ⟨e₂, a₂, w₂, hq₂, .of_steps (StepsIn.trans harr (.one (fenced_calm hb hr rfl) stepR_inLoop)) harr₂⟩
  | exit id => exact ⟨_, a₁, w₁, hq, .pass (x := .inLoop c) rfl (fun _ _ => .inl (by simp)) harr⟩
  | goto l => exact ⟨_, a₁, w₁, hq, .pass (x := .inLoop c) rfl (fun _ _ => .inl (by simp)) harr⟩
  | ret => exact ⟨_, a₁, w₁, hq, .pass (x := .inLoop c) rfl (fun _ _ => .inl (by simp)) harr⟩
  | panic ch => exact ⟨_, a₁, w₁, hq, .pass (x := .inLoop c) rfl (fun _ _ => .inl (by simp)) harr⟩
  | outgrown => exact ⟨_, a₁, w₁, hq, .pass (x := .inLoop c) rfl (fun _ _ => .inl (by simp)) harr⟩

def CodeOk (X : Ext) (A : Amb) (c : Code) (s : St) (e : AE) (s' : St) : Prop :=
  ∀ (T : Tags) (σ lm : Nat → Option Nat) (ro : Option Nat) (a : Act) (w : World), Rel X T σ lm A ro s a w → ∀ Q, (∀ a' w', GoTo X T σ lm A ro w s' a' w' → Q (exitOf e) a' w') → c.wpIn (fence ro) 0 X.P Q a w

def LoopROk (X : Ext) (loop : Code → (sh : Shape) → Amb → sh.head.ty.den → Option (exitsTy sh.exits).den) : Prop :=
  ∀ (b : Code) (sh : Shape) (A : Amb) x y, AmbOk A → loop b sh A x = some y → ∃ e s', landOf A.nt sh.exits y = some (e, s') ∧
    ∀ (T : Tags) (σ lm : Nat → Option Nat) (ro : Option Nat) (a : Act) (w : World), Rel X T σ lm A ro (sh.head.unpack A.nt x) a w → ∀ Q, (∀ a' w', GoTo X T σ lm A ro w s' a' w' → Q (exitOf e) a' w') → LoopAt (fence ro) X.P b Q a w

structure RecOk (X : Ext) (rec : Rec) : Prop where
  callT : CallTOk X rec.callT
  callH : CallHOk X rec.callH
  loop : LoopROk X rec.loop

structure ProgOk (X : Ext) : Prop extends XOk X where
  mixed : X.P.follows .mixedOrders = true

/-- Straight through a scope: nothing jumps. -/
def noGoto (Q : Exit → Act → World → Prop) : Exit → Act → World → Prop
  | .goto _, _, _ => False
  | e, a, w => Q e a w
theorem stepR_scope {P : Program} {b : Frame} {a : Act} {k : List Item} {cs : List Frame} {w : World} {c : Code} : step P (lone (b.atR a (.code (.scope c) :: k)) cs w) = .next (lone (b.atR a (.code c :: .inScope c :: k)) cs w) :=
  step_lone_go (by simp [stepG, stepG.exec, Frame.atR])
theorem stepR_inScope {P : Program} {b : Frame} {a : Act} {k : List Item} {cs : List Frame} {w : World} {c : Code} : step P (lone (b.atR a (.inScope c :: k)) cs w) = .next (lone (b.atR a k) cs w) :=
  step_lone_go (by simp [stepG, stepG.exec, Frame.atR])
theorem wpIn_scope {F : Fence} {n : Nat} {P : Program} {Q : Exit → Act → World → Prop} {a : Act} {w : World} {c : Code} (h : c.wpIn F n P (noGoto Q) a w) : (Code.scope c).wpIn F n P Q a w := by
  intro b k cs hro hb hr
  have h0 : (lone (b.atR a (.code (.scope c) :: k)) cs w).fenced P F := fenced_calm hb hr rfl
  obtain ⟨e, a₁, w₁, hq, harr⟩ := h b (.inScope c :: k) cs hro hb hr
  cases e with
  | normal => exact ⟨.normal, a₁, w₁, hq, .head h0 stepR_scope (StepsIn.trans harr (.one (fenced_calm hb hr rfl) stepR_inScope))⟩
  | exit id' =>
    have hx : exitTo id' (.inScope c :: k) = exitTo id' k := by simp [exitTo]
    exact ⟨.exit id', a₁, w₁, hq, fun k' hk => .head h0 stepR_scope (harr.1 k' (by rw [hx]; exact hk)),
      fun hr' hk => let ⟨k₁, h1, h2⟩ := harr.2 hr' (by rw [hx]; exact hk); ⟨k₁, h1, .head h0 stepR_scope h2⟩⟩
  | goto l => exact hq.elim
  | ret => exact ⟨_, a₁, w₁, hq, .of_steps (.one h0 stepR_scope) harr⟩
  | panic ch => exact ⟨_, a₁, w₁, hq, .of_steps (.one h0 stepR_scope) harr⟩
  | outgrown => exact ⟨_, a₁, w₁, hq, .of_steps (.one h0 stepR_scope) harr⟩

theorem tryShapes_some {R : Type} {b : Nat} {s : St} {go : (sh : Shape) → sh.head.ty.den → Option R} {r : R} : ∀ {l : List Shape}, tryShapes b s go l = some r → ∃ sh x, sh.head.pack b s = some x ∧ go sh x = some r := by
  intro l
  induction l with
  | nil => intro h; cases h
  | cons sh l ih =>
    intro h
    unfold tryShapes at h
    split at h
    · rename_i x hx; exact ⟨sh, x, hx, h⟩
    · exact ih h

theorem rangeFunc_ok (hX : ProgOk X) (hrec : RecOk X rec) {R : Type} {A : Amb} {f : Operand} {ps : Array Tmp} {as b : Code} {s : St} {k : AE → St → Option R} {r : R} (h : codeK X rec A (.rangeFunc f ps as b) s k = some r) :
    ∃ e s', k e s' = some r ∧ CodeOk X A (.rangeFunc f ps as b) s e s' := by
  simp only [codeK] at h
  split at h
  · rename_i g p q hf
    split at h
    · rename_i hc
      obtain ⟨hL, hrd, hbase⟩ := hc
      obtain ⟨v, ws, lk, gr, ps', h1, h2⟩ := viaHeapK_some hrec.callH h
      split at h1
      · rename_i hcalm
        simp only [Bool.and_eq_true, List.all_eq_true] at hcalm
        have main : ∀ (pd : Option AE), ps'[A.loops.length]? = some pd → pd ≠ some .normal → CodeOk X A (.rangeFunc f ps as b) s (pd.getD .normal) { s with heap := setAll s.heap ws ++ gr, pend := ps'.take A.loops.length } := by
          intro pd hpd hpn T σ lm ro a w hR Q hq
          have hro : ro = none := hR.round hrd
          subst hro
          refine wpIn_rangeFunc fun fn0 _ => ?_
          have hr := hR.eval f
          rw [hf] at hr
          generalize hav : a.eval f = u at hr
          cases hr with
          | func _ g p q vp vq hp1 hq1 =>
          obtain ⟨I1, K1⟩ := Inv.enter hR fn0 A.fn ps as b hL
          have hlm : ∀ i b, lm i = some b → enterLm lm A.loops.length (w.heap.size + 1) i = some b := fun i b e => by
            unfold enterLm
            rw [if_neg]; exact e
            intro h
            have := hR.inv.plen.2 i b e
            omega
          have hfix : Fix.le T.fix (enterTags T w.heap.size A.loops.length).fix := fun x o v e => by
            rw [Tags.fix_eq] at e ⊢; exact K1.fixed x o v e
          have hargs : RepL (enterTags T w.heap.size A.loops.length).fix σ (enterLm lm A.loops.length (w.heap.size + 1)) ((p ++ [AV.func (.yield A.loops.length) [] []] ++ q).map AV.dull) (vp ++ [.func (.yield (w.heap.size + 1)) #[] #[]] ++ vq) := by
            rw [List.map_append, List.map_append]
            refine ((repL_mapdull (hp1.mono hfix (fun _ _ x => x) hlm)).append ?_).append (repL_mapdull (hq1.mono hfix (fun _ _ x => x) hlm))
            exact .cons _ _ _ _ (.yield _ _ _ (by simp [enterLm])) .nil
          have hcall := h2 _ _ _ _ _ I1 (hR.glob.mono hfix) hargs
          obtain ⟨fd, cd, hfd, hbd, hcall⟩ := hcall
          refine ⟨w.heap.size + 1, [{ target := .collected w.heap.size, args := #[] }], enterWorld w fn0 a.tmps ps as b, { target := .fn (.func g) vq.toArray, args := vp.toArray ++ #[.func (.yield (w.heap.size + 1)) #[] #[]] }, enterWorld w fn0 a.tmps ps as b, g, (vp ++ [Value.func (.yield (w.heap.size + 1)) #[] #[]] ++ vq).toArray, enterWorld w fn0 a.tmps ps as b, ?_, ?_, fun _ _ => trivial, ?_, fun e => by simp [fence, Fence.wide] at e, ?_⟩
          · exact run_enterLoop_outer fn0 a.tmps ps as b
          · simp only [resolve, rangeCall, hav, Deferred.ofValue, Sem.run_pure]
            congr 3
            apply Array.ext'
            simp [Act.eval]
          · simp only [invoke]
            rw [callFunc_enter hfd (hX.name g fd hfd) hbd]
            congr 2
            apply Array.ext'
            simp
          · refine CallsIn.mono (F := fence none) (n := 0) hcall fun e w3 hpst => ?_
            cases e with
            | panicked ch => exact hpst.elim
            | outgrown => exact hpst.elim
            | returned v3 =>
              obtain ⟨T', σ', C, _⟩ := hpst
              obtain ⟨w4, hend, hstep⟩ := Rel.leave hR rfl hL C hpd hpn hcalm.1 hcalm.2
              refine ⟨_, w4, hend, ?_⟩
              have hgo := hq _ _ (GoTo.of_step hstep)
              cases pd with
              | none => exact hgo
              | some e =>
                cases e with
                | normal => exact absurd rfl hpn
                | ret => exact wpIn_ret hgo
                | exit id => exact wpIn_exit hgo
        split at h1
        · rename_i hn
          exact ⟨_, _, h1, main none hn (by simp)⟩
        · cases h1
        · rename_i e hne hn
          exact ⟨_, _, h1, main (some e) hn (fun h => hne (Option.some.inj h))⟩
        · cases h1
      · cases h1
    · cases h
  · cases h

theorem codeK_some (hX : ProgOk X) (hrec : RecOk X rec) {A : Amb} (hA : AmbOk A) (c : Code) : ∀ {R : Type} {s : St} {k : AE → St → Option R} {r : R}, codeK X rec A c s k = some r → ∃ e s', k e s' = some r ∧ CodeOk X A c s e s' := by
  induction c with
  | skip =>
    intro R s k r h
    exact ⟨_, _, h, fun T σ lm ro a w hR Q hq => wpIn_skip (hq _ _ (GoTo.refl hR))⟩
  | label l =>
    intro R s k r h
    exact ⟨_, _, h, fun T σ lm ro a w hR Q hq => wpIn_label (hq _ _ (GoTo.refl hR))⟩
  | region id ops draw =>
    intro R s k r h
    simp only [codeK] at h
    obtain ⟨s', h1, h2⟩ := regionK_some (id := id) hX.toXOk hX.mixed hrec.callT hrec.callH h
    exact ⟨_, _, h1, fun T σ lm ro a w hR Q hq => h2 T σ lm ro a w hR Q fun a' w' hs => hq a' w' (GoTo.of_step hs)⟩
  | seq x y ihx ihy =>
    intro R s k r h
    simp only [codeK] at h
    -- what comes behind x
    have join : ∀ (e1 : AE) (s1 s2 : St), CodeOk X A x s e1 s1 → (∀ (T : Tags) (σ lm : Nat → Option Nat) (ro : Option Nat) (a : Act) (w : World), Rel X T σ lm A ro s1 a w → GoTo X T σ lm A ro w s2 a w) →
        (match e1 with
          | .normal => codeK X rec A y s2 k
          | e => k e s2) = some r → ∃ e s', k e s' = some r ∧ CodeOk X A (.seq x y) s e s' := by
      intro e1 s1 s2 hx hs h1
      cases e1 with
      | normal =>
        obtain ⟨e, s', h2, h3⟩ := ihy h1
        refine ⟨e, s', h2, fun T σ lm ro a w hR Q hq => wpIn_seq (hx T σ lm ro a w hR _ fun a1 w1 hg => ?_)⟩
        obtain ⟨T1, σ1, K1, hσ1, R1⟩ := hg
        obtain ⟨T2, σ2, K2, hσ2, R2⟩ := hs T1 σ1 lm ro a1 w1 R1
        have K12 := K1.trans K2
        have hσ12 : ∀ c, c < A.base → ∀ b, σ c = some b → σ2 c = some b := fun c hc b e => hσ2 c hc b (hσ1 c hc b e)
        exact h3 T2 σ2 lm ro a1 w1 R2 Q fun a' w' hg' => hq a' w' (GoTo.trans K12 hσ12 hg')
      | exit id =>
        refine ⟨.exit id, s2, h1, fun T σ lm ro a w hR Q hq => wpIn_seq (hx T σ lm ro a w hR _ fun a1 w1 hg => ?_)⟩
        obtain ⟨T1, σ1, K1, hσ1, R1⟩ := hg
        exact hq a1 w1 (GoTo.trans K1 hσ1 (hs T1 σ1 lm ro a1 w1 R1))
      | ret =>
        refine ⟨.ret, s2, h1, fun T σ lm ro a w hR Q hq => wpIn_seq (hx T σ lm ro a w hR _ fun a1 w1 hg => ?_)⟩
        obtain ⟨T1, σ1, K1, hσ1, R1⟩ := hg
        exact hq a1 w1 (GoTo.trans K1 hσ1 (hs T1 σ1 lm ro a1 w1 R1))
    split at h
    · obtain ⟨e1, s1, h1, h2⟩ := ihx h
      exact join e1 s1 s1 h2 (fun T σ lm ro a w hR => GoTo.refl hR) h1
    · rename_i ex hex
      obtain ⟨y1, hy1, h⟩ := bind_some h
      obtain ⟨e1, s1, h1, h2⟩ := ihx hy1
      rw [unpackEx_land] at h
      obtain ⟨⟨e2, s2⟩, hland, h⟩ := bind_some h
      obtain ⟨p, x1, hp1, hp2⟩ := packEx_some (n := A.nt) ex h1
      rw [hland] at hp2
      cases hp2
      exact join e1 s1 _ h2 (fun T σ lm ro a w hR => hR.pack hA hp1) h
  | cond c x y ihx ihy =>
    intro R s k r h
    simp only [codeK] at h
    split at h
    · rename_i t
      split at h
      · rename_i v hv
        have hs : ∀ b, b = v → ({ s with tmps := s.tmps.set t (.bool b) } : St) = s := fun b e => by rw [e, set_getT hv (by simp)]
        have hev : ∀ (T : Tags) (σ lm : Nat → Option Nat) (ro : Option Nat) (a : Act) (w : World), Rel X T σ lm A ro s a w → a.eval (.tmp t) = .bool v := fun T σ lm ro a w hR => by
          have hb' := rel_tmp hR hv
          simp [Act.eval, Array.getD_eq_getD_getElem?, hb']
        rw [br_eq] at h
        split at h
        · rename_i hvt
          rw [hs true hvt.symm] at h
          obtain ⟨e, s', h1, h2⟩ := ihx h
          exact ⟨e, s', h1, fun T σ lm ro a w hR Q hq => wpIn_cond_true (by rw [hev T σ lm ro a w hR, hvt]) (h2 T σ lm ro a w hR Q hq)⟩
        · rename_i hvf
          have hvf' : v = false := by simpa using hvf
          rw [hs false hvf'.symm] at h
          obtain ⟨e, s', h1, h2⟩ := ihy h
          exact ⟨e, s', h1, fun T σ lm ro a w hR Q hq => wpIn_cond_false (by rw [hev T σ lm ro a w hR, hvf']) (h2 T σ lm ro a w hR Q hq)⟩
      · cases h
    · rename_i v
      split at h
      · rename_i hvt
        obtain ⟨e, s', h1, h2⟩ := ihx h
        exact ⟨e, s', h1, fun T σ lm ro a w hR Q hq => wpIn_cond_true (by simp [Act.eval, hvt]) (h2 T σ lm ro a w hR Q hq)⟩
      · rename_i hvf
        have hvf' : v = false := by simpa using hvf
        obtain ⟨e, s', h1, h2⟩ := ihy h
        exact ⟨e, s', h1, fun T σ lm ro a w hR Q hq => wpIn_cond_false (by simp [Act.eval, hvf']) (h2 T σ lm ro a w hR Q hq)⟩
    · cases h
  | block id x ih =>
    intro R s k r h
    simp only [codeK] at h
    obtain ⟨e1, s1, h1, h2⟩ := ih h
    cases e1 with
    | normal => exact ⟨.normal, s1, h1, fun T σ lm ro a w hR Q hq => wpIn_block (h2 T σ lm ro a w hR _ fun a' w' hg => hq a' w' hg)⟩
    | ret => exact ⟨.ret, s1, h1, fun T σ lm ro a w hR Q hq => wpIn_block (h2 T σ lm ro a w hR _ fun a' w' hg => hq a' w' hg)⟩
    | exit id' =>
      simp only at h1
      by_cases hid : id' = id
      · rw [if_pos hid] at h1
        exact ⟨.normal, s1, h1, fun T σ lm ro a w hR Q hq => wpIn_block (h2 T σ lm ro a w hR _ fun a' w' hg => by simp only [exitOf, Exit.inBlock, hid, if_true]; exact hq a' w' hg)⟩
      · rw [if_neg hid] at h1
        exact ⟨.exit id', s1, h1, fun T σ lm ro a w hR Q hq => wpIn_block (h2 T σ lm ro a w hR _ fun a' w' hg => by simp only [exitOf, Exit.inBlock, hid, if_false]; exact hq a' w' hg)⟩
  | loop b ih =>
    intro R s k r h
    simp only [codeK] at h
    obtain ⟨sh, x, hx, h⟩ := tryShapes_some h
    obtain ⟨y, hy, h⟩ := bind_some h
    rw [unpackEx_land] at h
    obtain ⟨⟨e2, s2⟩, hland, h⟩ := bind_some h
    obtain ⟨e, s', h1, h2⟩ := hrec.loop b sh A x y hA hy
    rw [hland] at h1
    cases h1
    refine ⟨e2, s2, h, fun T σ lm ro a w hR Q hq => loop_of_at ?_⟩
    obtain ⟨T1, σ1, K1, hσ1, R1⟩ := hR.pack hA hx
    exact h2 T1 σ1 lm ro a w R1 Q fun a' w' hg => hq a' w' (GoTo.trans K1 hσ1 hg)
  | exit id =>
    intro R s k r h
    exact ⟨_, _, h, fun T σ lm ro a w hR Q hq => wpIn_exit (hq _ _ (GoTo.refl hR))⟩
  | ret =>
    intro R s k r h
    exact ⟨_, _, h, fun T σ lm ro a w hR Q hq => wpIn_ret (hq _ _ (GoTo.refl hR))⟩
  | rangeFunc f ps as b iha ihb =>
    intro R s k r h
    exact rangeFunc_ok hX hrec h
  | scope b ih =>
    intro R s k r h
    simp only [codeK] at h
    obtain ⟨e, s1, h1, h2⟩ := ih h
    exact ⟨e, s1, h1, fun T σ lm ro a w hR Q hq => wpIn_scope (h2 T σ lm ro a w hR _ fun a' w' hg => by cases e <;> exact hq a' w' hg)⟩
  | goto l => intro R s k r h; simp [codeK] at h
  | refuse y => intro R s k r h; simp [codeK] at h

theorem loopD_ok (hX : ProgOk X) (hrec : RecOk X rec) : LoopROk X (loopD X rec) := by
  intro b sh A x y hA h
  unfold loopD at h
  obtain ⟨e1, s1, h1, h2⟩ := codeK_some hX hrec hA b h
  -- the way out
  have out : ∀ (hne : e1 ≠ .normal), packEx sh.exits A.base e1 s1 = some y → ∃ e s', landOf A.nt sh.exits y = some (e, s') ∧
      ∀ (T : Tags) (σ lm : Nat → Option Nat) (ro : Option Nat) (a : Act) (w : World), Rel X T σ lm A ro (sh.head.unpack A.nt x) a w → ∀ Q, (∀ a' w', GoTo X T σ lm A ro w s' a' w' → Q (exitOf e) a' w') → LoopAt (fence ro) X.P b Q a w := by
    intro hne hp
    obtain ⟨p, x1, hp1, hp2⟩ := packEx_some (n := A.nt) sh.exits hp
    refine ⟨e1, _, hp2, fun T σ lm ro a w hR Q hq => at_step (h2 T σ lm ro a w hR _ fun a1 w1 hg => ?_)⟩
    obtain ⟨T1, σ1, K1, hσ1, R1⟩ := hg
    have := hq a1 w1 (GoTo.trans K1 hσ1 (R1.pack hA hp1))
    cases e1 with
    | normal => exact absurd rfl hne
    | exit id => exact this
    | ret => exact this
  cases e1 with
  | normal =>
    simp only at h1
    split at h1
    · rename_i x1 hx1
      obtain ⟨e, s', h3, h4⟩ := hrec.loop b sh A x1 y hA h1
      refine ⟨e, s', h3, fun T σ lm ro a w hR Q hq => at_step (h2 T σ lm ro a w hR _ fun a1 w1 hg => ?_)⟩
      obtain ⟨T1, σ1, K1, hσ1, R1⟩ := hg
      obtain ⟨T2, σ2, K2, hσ2, R2⟩ := R1.pack hA hx1
      exact h4 T2 σ2 lm ro a1 w1 R2 Q fun a' w' hg' => hq a' w' (GoTo.trans (K1.trans K2) (fun c hc b e => hσ2 c hc b (hσ1 c hc b e)) hg')
    · obtain ⟨sh', x1, hx1, h1⟩ := tryShapes_some h1
      obtain ⟨y', hy', h1⟩ := bind_some h1
      rw [unpackEx_land] at h1
      obtain ⟨⟨e2, s2⟩, hland, h1⟩ := bind_some h1
      obtain ⟨e, s', h3, h4⟩ := hrec.loop b sh' A x1 y' hA hy'
      rw [hland] at h3
      cases h3
      obtain ⟨p, x3, hp1, hp2⟩ := packEx_some (n := A.nt) sh.exits h1
      refine ⟨e2, _, hp2, fun T σ lm ro a w hR Q hq => at_step (h2 T σ lm ro a w hR _ fun a1 w1 hg => ?_)⟩
      obtain ⟨T1, σ1, K1, hσ1, R1⟩ := hg
      obtain ⟨T2, σ2, K2, hσ2, R2⟩ := R1.pack hA hx1
      refine h4 T2 σ2 lm ro a1 w1 R2 Q fun a' w' hg' => hq a' w' (GoTo.trans (K1.trans K2) (fun c hc b e => hσ2 c hc b (hσ1 c hc b e)) ?_)
      obtain ⟨T3, σ3, K3, hσ3, R3⟩ := hg'
      exact GoTo.trans K3 hσ3 (R3.pack hA hp1)
  | exit id => exact out (by simp) h1
  | ret => exact out (by simp) h1
end Go.Am

/-
  THE ABSTRACT MACHINE: functions, rounds, the machine with fuel.
-/
namespace Go.Am
open Go
variable {X : Ext} {rec : Rec}

def SpecOk (X : Ext) : Prop := ∀ g t f args x, X.spec g t = some f → f args = some x → closedL args = true → ∀ F w vs, FixOk F w → GlobOk X F → RepL F nowhere nowhere args vs → CallsOk X.P (.func g) nowhere vs w (PostT X g t x F w)

/-- Functions told on the heap. -/
def SpecHOk (X : Ext) : Prop := ∀ g f (R : Type) args h (k : AV → List Cell → Option R) r, X.specH g = some f → f.run args h k = some r → ∃ v h', k v h' = some r ∧ ∀ T σ lm ls ps w us, Inv T σ lm h ls ps w → GlobOk X T.fix → RepL T.fix σ lm args us → CallsOk X.P (.func g) lm us w (PostH T σ lm h ls w v h' ps)
theorem specH_none {X : Ext} (h : ∀ g, X.specH g = none) : SpecHOk X := fun g f R args hp k r e => by rw [h g] at e; cases e

def packVal : List Value → Value
  | [v] => v
  | l => .tuple l.toArray

def ResRep (F : Fix) (σ lm : Nat → Option Nat) (ow : Own) (vs : List AV) (rs : List Value) : Prop :=
  (∃ v r, vs = [v] ∧ rs = [r] ∧ Rep F σ lm ow v r) ∨ (vs.length ≠ 1 ∧ RepL F σ lm vs rs)

theorem repC_of_repL {F : Fix} {σ lm : Nat → Option Nat} {ow : Own} : ∀ {l : List AV} {vs : List Value} {j : Nat}, RepL F σ lm l vs → RepC F σ lm ow j l vs := by
  intro l
  induction l with
  | nil => intro vs j h; cases h; exact .nil _ _
  | cons a l ih =>
    intro vs j h
    cases h with
    | cons _ v _ vs h t => exact .cons _ _ _ _ _ _ (h.mono (Fix.le.refl _) (fun _ _ x => x) (fun _ _ x => x) (fun _ _ _ x => x.elim)) (ih t)

theorem packRes_rep {F : Fix} {σ lm : Nat → Option Nat} {ow : Own} {vs : List AV} {rs : List Value} (h : ResRep F σ lm ow vs rs) : Rep F σ lm ow (packRes vs) (packVal rs) := by
  rcases h with ⟨v, r, rfl, rfl, h⟩ | ⟨h1, h2⟩
  · exact h
  · have hl := h2.length
    have e1 : packRes vs = .tuple vs := by
      match vs, h1 with
      | [], _ => rfl
      | _ :: _ :: _, _ => rfl
    have e2 : packVal rs = .tuple rs.toArray := by
      match rs, (by omega : rs.length ≠ 1) with
      | [], _ => rfl
      | _ :: _ :: _, _ => rfl
    rw [e1, e2]
    exact .tuple _ _ _ (repC_of_repL h2)

/-! ### Results -/
def resOf (tmps : Array Value) : ResultVar → Sem Value
  | .tmp t => pure (tmps.getD t undef)
  | .cell a t => do loadVar t (← asAddr (tmps.getD a undef))

theorem run_results {fn : Func} {tmps : Array Value} {rs : List Value} {w : World} {P : Program} (h : (fn.results.toList.mapM (resOf tmps)).run P w = .ok rs w) : (results fn tmps).run P w = .ok (packVal rs) w := by
  have hf : results fn tmps = (do
      let vs ← fn.results.mapM (resOf tmps)
      pure (if h : vs.size = 1 then vs[0] else .tuple vs)) := by
    unfold results
    have : (fun x : ResultVar => (match x with
      | .tmp t => pure (tmps.getD t undef)
      | .cell a t => do loadVar t (← asAddr (tmps.getD a undef)) : Sem Value)) = resOf tmps := by
      funext x; cases x <;> rfl
    rw [← this]
    rfl
  rw [hf, Array.mapM_eq_mapM_toList]
  simp only [Sem.run_bind, Sem.run_map, h, Result.andThen_ok]
  rw [Sem.run_pure]
  congr 1
  match rs with
  | [] => rfl
  | [v] => rfl
  | _ :: _ :: _ => rfl

section
variable {T : Tags} {σ lm : Nat → Option Nat} {A : Amb} {ro : Option Nat} {s : St} {a : Act} {w : World}

theorem readCell (hR : Rel X T σ lm A ro s a w) {c off b : Nat} {l : List AV} {t : TypeId} {v : AV} (hc : s.heap[c]? = some (.var l)) (hs : σ c = some b) (h : readLeaves X.P t (l.drop off) (fun v => some v.dull) = some v) :
    ∃ u, (loadVar t ⟨b, off, none⟩).run X.P w = .ok u w ∧ Rep T.fix σ lm noOwn v u := by
  obtain ⟨b', h1, h2, h3⟩ := hR.inv.var c l hc
  rw [hs] at h1; cases h1
  rcases readLeaves_some h with ⟨ha, hi, hl, hk, dd, hd⟩ | ⟨ha, x, rest, dd, hl, hk, hd⟩
  · cases hk
    obtain ⟨vs, hv1, hv2⟩ := list_choice (Q := fun j av v => w.cell? ⟨b, j, none⟩ = some v ∧ Rep T.fix σ lm (T.own (.leaf c j)) av v) l 0 fun j av hj => by
      obtain ⟨v, e1, e2, e3, e4⟩ := h3 j av hj
      exact ⟨v, by simpa using e1, by simpa using e4⟩
    have hget : ∀ (j : Nat) v, vs[j]? = some v → ∃ av, l[j]? = some av ∧ w.cell? ⟨b, j, none⟩ = some v ∧ Rep T.fix σ lm (T.own (.leaf c j)) av v := fun j v hv => by
      have hlt : j < vs.length := lt_of_get hv
      have := hv2 j l[j] v (List.getElem?_eq_getElem (by omega)) hv
      simp only [Nat.zero_add] at this
      exact ⟨_, List.getElem?_eq_getElem (by omega), this⟩
    have hrl : RepL T.fix σ lm (l.map AV.dull) vs := RepL.of_get (by simp [hv1]) fun j av v h1 h2 => by
      simp only [List.getElem?_map, Option.map_eq_some_iff] at h1
      obtain ⟨x, hx, rfl⟩ := h1
      obtain ⟨x', hx', _, hrx⟩ := hget j v h2
      rw [hx] at hx'; cases hx'
      exact hrx.dull
    have hrl2 := (hrl.drop off).take (sizeT X.P t)
    rw [← List.map_drop, ← List.map_take] at hrl2
    refine ⟨.agg ((vs.drop off).take (sizeT X.P t)).toArray, ?_, .agg _ _ _ hrl2⟩
    refine run_load_agg ha hd hi (vs.drop off) ⟨b, off, none⟩ w (by simp at hl ⊢; omega) fun j v hv => ?_
    rw [List.getElem?_drop] at hv
    obtain ⟨_, _, e, _⟩ := hget _ v hv
    rw [add_none]; exact e
  · cases hk
    have h0 : l[off]? = some x := by
      have : (l.drop off)[0]? = some x := by rw [hl]; rfl
      rwa [List.getElem?_drop, Nat.add_zero] at this
    obtain ⟨y, e1, e2, e3, e4⟩ := h3 off x h0
    exact ⟨y, run_load_one ha hd ⟨b, off, none⟩ y w e1, e4.dull⟩

theorem resVar_some (hR : Rel X T σ lm A ro s a w) {r : ResultVar} {v : AV} (h : resVar X s r = some v) : ∃ u, (resOf a.tmps r).run X.P w = .ok u w ∧ Rep T.fix σ lm (match r with | .tmp t => T.own (.tmp t) | .cell .. => noOwn) v u := by
  cases r with
  | tmp t =>
    simp only [resVar, Option.some.injEq] at h
    subst h
    exact ⟨a.tmps.getD t undef, by simp [resOf], hR.tm t⟩
  | cell c t =>
    simp only [resVar] at h
    split at h
    · rename_i b off hc
      split at h
      · rename_i l hl
        have hr := hR.tm c
        rw [hc] at hr
        generalize hav : a.tmps.getD c undef = u at hr
        cases hr with
        | ptr _ _ _ blk hs =>
        obtain ⟨u', hu, hru⟩ := readCell hR hl hs h
        refine ⟨u', ?_, hru⟩
        simp only [resOf, hav, asAddr, Sem.run_bind, Sem.run_pure, Result.andThen_ok]
        exact hu
      · cases h
    · cases h

theorem resVarsGo_some (hR : Rel X T σ lm A ro s a w) : ∀ {l : List ResultVar} {vs : List AV}, resVarsGo X s l = some vs → ∃ rs, (l.mapM (resOf a.tmps)).run X.P w = .ok rs w ∧ RepL T.fix σ lm vs rs := by
  intro l
  induction l with
  | nil => intro vs h; simp [resVarsGo] at h; subst h; exact ⟨[], rfl, .nil⟩
  | cons r l ih =>
    intro vs h
    simp only [resVarsGo] at h
    obtain ⟨v, h1, h⟩ := bind_some h
    obtain ⟨us, h2, h⟩ := bind_some h
    cases h
    obtain ⟨u, e1, e2⟩ := resVar_some hR h1
    obtain ⟨rs, f1, f2⟩ := ih h2
    refine ⟨u :: rs, ?_, .cons _ _ _ _ e2.dull f2⟩
    simp only [List.mapM_cons, Sem.run_bind, e1, Result.andThen_ok, f1, Sem.run_pure]

theorem resVars_some (hR : Rel X T σ lm A ro s a w) {l : List ResultVar} {vs : List AV} (h : resVars X s l = some vs) :
    ∃ T' rs, Keeps T w T' w ∧ Inv T' σ lm s.heap A.loops s.pend w ∧ (l.mapM (resOf a.tmps)).run X.P w = .ok rs w ∧ ResRep T'.fix σ lm (T'.own .ret) vs rs := by
  unfold resVars at h
  split at h
  · rename_i r
    obtain ⟨v, h1, h⟩ := bind_some h
    cases h
    obtain ⟨u, e1, e2⟩ := resVar_some hR h1
    have hrun : ([r].mapM (resOf a.tmps)).run X.P w = .ok [u] w := by
      simp only [List.mapM_cons, List.mapM_nil, Sem.run_bind, e1, Result.andThen_ok, Sem.run_pure]
    cases r with
    | tmp t =>
      refine ⟨T.retag (.tmp t) .ret, [u], retag_keeps _ _ _, hR.inv.retag _ _ (fun c j e => by cases e) (fun c j e => by cases e), hrun, .inl ⟨v, u, rfl, rfl, ?_⟩⟩
      rw [retag_fix]
      exact e2.mono (Fix.le.refl _) (fun _ _ x => x) (fun _ _ x => x) retag_own_same
    | cell c t => exact ⟨T, [u], Keeps.refl _ _, hR.inv, hrun, .inl ⟨v, u, rfl, rfl, e2.mono (Fix.le.refl _) (fun _ _ x => x) (fun _ _ x => x) (fun _ _ _ x => x.elim)⟩⟩
  · rename_i hne
    obtain ⟨rs, f1, f2⟩ := resVarsGo_some hR h
    refine ⟨T, rs, Keeps.refl _ _, hR.inv, f1, .inr ⟨?_, f2⟩⟩
    have hlen : vs.length = l.length := by
      have : ∀ {l : List ResultVar} {vs : List AV}, resVarsGo X s l = some vs → vs.length = l.length := by
        intro l
        induction l with
        | nil => intro vs h; simp [resVarsGo] at h; subst h; rfl
        | cons r l ih =>
          intro vs h
          simp only [resVarsGo] at h
          obtain ⟨v, h1, h⟩ := bind_some h
          obtain ⟨us, h2, h⟩ := bind_some h
          cases h
          simp [ih h2]
      exact this h
    rw [hlen]
    intro h1
    match l, h1 with
    | [r], _ => exact hne r rfl

/-- The marks are taken down. -/
theorem leaves_ok {fn : Func} {R : Ending → World → Prop} : ∀ (ds : List Deferred) (a : Act) (w : World), a.defers = ds → Rel X T σ lm A ro s a w →
    (∀ w', Keeps T w T w' → Rel X T σ lm A ro s { a with defers := [] } w' → LeavesIn Fence.wide 0 X.P fn a.tmps R [] .returning w') → LeavesInM Fence.wide 0 X.P fn a.tmps R ds .returning w := by
  intro ds
  induction ds with
  | nil =>
    intro a w hd hR h
    unfold LeavesInM
    refine h w (Keeps.refl _ _) ?_
    have : ({ a with defers := [] } : Act) = a := by rw [← hd]
    rw [this]; exact hR
  | cons d ds ih =>
    intro a w hd hR h
    obtain ⟨D, e1, e2, e3⟩ := hR.marks d (by rw [hd]; simp)
    unfold LeavesInM
    refine ⟨by simp, .inl ⟨D, w.putObj D (.deferred none), by rw [e1], run_takeDeferred e2, ?_⟩⟩
    have K : Keeps T w T (w.putObj D (.deferred none)) := keeps_putObj e2 trivial trivial ⟨0, by rw [e3]; rfl⟩ (fun _ _ _ e => e) (fun _ _ e => e)
    have hnd := hR.nodup
    rw [hd, List.pairwise_cons] at hnd
    have hR' : Rel X T σ lm A ro s { a with defers := ds } (w.putObj D (.deferred none)) := by
      refine ⟨hR.inv.putMark e2 trivial trivial e3, hR.len, hR.nt, hR.tm, fun d' hd' => ?_, hnd.2, hR.round, hR.glob⟩
      obtain ⟨D', f1, f2, f3⟩ := hR.marks d' (by rw [hd]; exact List.mem_cons_of_mem _ hd')
      refine ⟨D', f1, ?_, f3⟩
      rw [World.putObj_heap_other]; exact f2
      exact fun e => hnd.1 d' hd' D D' (by rw [e1]) (by rw [f1]) e.symm
    exact ih { a with defers := ds } _ rfl hR' fun w' K' hR'' => h w' (K.trans K') hR''
end

/-! ### A body -/
def PostB (T : Tags) (σ lm : Nat → Option Nat) (h : List Cell) (ls : List LoopRec) (w : World) (vs : List AV) (h' : List Cell) (ps' : List (Option AE)) (u : Value) (w' : World) : Prop :=
  ∃ T' σ' rs, Keeps T w T' w' ∧ (∀ c, c < h.length → ∀ b, σ c = some b → σ' c = some b) ∧ Inv T' σ' lm h' ls ps' w' ∧ u = packVal rs ∧ ResRep T'.fix σ' lm (T'.own .ret) vs rs

theorem loopsIn_ok {n : Nat} {ls : List LoopRec} (h : loopsIn n ls = true) : ∀ r ∈ ls, ∀ p ∈ ptrsL r.tmps, p < n := fun r hr p hp => by
  unfold loopsIn at h
  rw [List.all_eq_true] at h
  have := h r hr
  rw [List.all_eq_true] at this
  simpa using this p hp

theorem getT_args (args : List AV) (n t : Nat) : getT (args.map AV.dull ++ List.replicate n .top) t = ((args[t]?).map AV.dull).getD .top := by
  unfold getT
  rw [List.getD_eq_getElem?_getD, List.getElem?_append]
  simp only [List.length_map]
  split
  · rename_i h; rw [List.getElem?_map]
  · rename_i h
    rw [List.getElem?_replicate, List.getElem?_eq_none (Nat.le_of_not_lt h)]
    split <;> rfl

theorem bodyK_some (hX : ProgOk X) (hrec : RecOk X rec) {R : Type} {g : FuncId} {args : List AV} {h : List Cell} {ls : List LoopRec} {ps : List (Option AE)} {k : List AV → List Cell → List (Option AE) → Option R} {r : R}
    (hk : bodyK X rec g args h ls ps k = some r) : ∃ vs h' ps', k vs h' ps' = some r ∧ ∀ T σ lm w us, Inv T σ lm h ls ps w → GlobOk X T.fix → RepL T.fix σ lm args us → CallsOk X.P (.func g) lm us w (PostB T σ lm h ls w vs h' ps') := by
  unfold bodyK at hk
  split at hk
  · rename_i fn hfn
    split at hk
    · rename_i c hc
      split at hk
      · rename_i hcond
        obtain ⟨hle, hlp⟩ := hcond
        obtain ⟨e, s', h1, h2⟩ := codeK_some hX hrec (A := { fn := g, base := h.length, nt := fn.ntmps, loops := ls }) (loopsIn_ok hlp) c hk
        split at h1
        · rename_i hlv
          obtain ⟨vs, hvs, h1⟩ := bind_some h1
          refine ⟨vs, _, _, h1, fun T σ lm w us I hG hargs => ⟨fn, c, hfn, hc, ?_⟩⟩
          have hlen := hargs.length
          refine callsIn_of_wp_marks (F := Fence.wide) hfn hc trivial ?_
          have hR0 : Rel X T σ lm { fn := g, base := h.length, nt := fn.ntmps, loops := ls } none { tmps := args.map AV.dull ++ List.replicate (fn.ntmps - args.length) .top, heap := h, pend := ps } { tmps := us.toArray ++ Array.replicate (fn.ntmps - us.toArray.size) undef, defers := [] } w := by
            refine ⟨I, by simp; omega, by simp; omega, fun t => ?_, (fun d hd => by cases hd), List.Pairwise.nil, fun _ => rfl, hG⟩
            rw [getT_args]
            cases ha : args[t]? with
            | none => exact .top _ _
            | some av =>
              obtain ⟨u, hu, hru⟩ := hargs.get t av ha
              have hlt := lt_of_get hu
              have : (us.toArray ++ Array.replicate (fn.ntmps - us.toArray.size) undef).getD t undef = u := by
                rw [Array.getD_eq_getD_getElem?, Array.getElem?_append_left (by simpa using hlt)]
                simp [hu]
              simp only [this, Option.map_some, Option.getD_some]
              exact hru.dull
          refine h2 T σ lm none _ w hR0 _ fun a' w' hg => ?_
          obtain ⟨T1, σ1, K1, hσ1, R1⟩ := hg
          have fin : LeavesInM Fence.wide 0 X.P fn a'.tmps (retR (PostB T σ lm h ls w vs s'.heap s'.pend)) a'.defers .returning w' := by
            refine leaves_ok a'.defers a' w' rfl R1 fun w2 K2 R2 => ?_
            obtain ⟨T3, rs, K3, I3, hrun, hrr⟩ := resVars_some R2 hvs
            exact ⟨packVal rs, run_results hrun, T3, σ1, rs, (K1.trans K2).trans K3, hσ1, I3, rfl, hrr⟩
          cases e with
          | normal => exact fin
          | ret => exact fin
          | exit id => cases hlv
        · cases h1
      · cases hk
    · cases hk
  · cases hk

theorem Inv.drop {T : Tags} {σ lm : Nat → Option Nat} {h : List Cell} {ls : List LoopRec} {ps : List (Option AE)} {w : World} (I : Inv T σ lm h ls ps w) : Inv T nowhere nowhere [] [] [] w :=
  ⟨I.fixed, I.spare, I.live, (fun c b e => by cases e), (fun c l e => by simp at e), (fun c x e => by simp at e), ⟨rfl, (fun i b e => by cases e)⟩, (fun i r e => by simp at e)⟩

theorem leaf_agg {F : Fix} {σ lm : Nat → Option Nat} {ow : Own} {v : AV} {u : Value} {fl : List AV} (h : Rep F σ lm ow v u) (hf : v.flat = some fl) : (v.isAgg = true → u = .agg u.cells) ∧ (v.isAgg = false → u.cells = #[u]) := by
  unfold AV.flat at hf
  split at hf
  · cases hf
    cases h with
    | agg _ l vs h => exact ⟨fun _ => rfl, fun e => by cases e⟩
  · rename_i hne
    split at hf
    · rename_i hl
      refine ⟨fun e => ?_, fun _ => (leaf_rep h hl).2.1⟩
      cases v <;> simp [AV.isAgg] at e
      exact absurd rfl (hne _)
    · cases hf

theorem injComps_rep {F : Fix} {σ lm σ' lm' : Nat → Option Nat} {P : Program} : ∀ (ts : List TypeId) {vs : List AV} {l : List AV} {rs : List Value} {m : List AV}, retLeaves P ts vs = some l → (vs.length = rs.length ∧ ∀ (i : Nat) v r, vs[i]? = some v → rs[i]? = some r → ∃ ow, Rep F σ lm ow v r) →
    RepL F σ' lm' m (rs.flatMap fun r => r.cells.toList) → RepL F σ' lm' (injComps P ts m) rs ∧ RepL F σ lm l (rs.flatMap fun r => r.cells.toList) := by
  intro ts
  induction ts with
  | nil =>
    intro vs l rs m h hp hm
    cases vs with
    | nil =>
      cases h
      cases rs with
      | nil => exact ⟨.nil, .nil⟩
      | cons => simp at hp
    | cons => cases h
  | cons t ts ih =>
    intro vs l rs m h hp hm
    cases vs with
    | nil => cases h
    | cons v vs =>
      cases rs with
      | nil => simp at hp
      | cons r rs =>
        simp only [retLeaves] at h
        split at h
        · rename_i hagg
          obtain ⟨fl, hfl, h⟩ := bind_some h
          split at h
          · rename_i hsz
            obtain ⟨l', hl', h⟩ := bind_some h
            cases h
            obtain ⟨ow, hv⟩ := hp.2 0 v r rfl rfl
            have hrf := flat_rep hv hfl
            have hcl : r.cells.toList.length = sizeT P t := by rw [← hrf.length]; exact hsz
            rw [List.flatMap_cons] at hm
            obtain ⟨ih1, ih2⟩ := ih (rs := rs) (m := m.drop (sizeT P t)) hl' ⟨by simpa using hp.1, fun i v r h1 h2 => hp.2 (i + 1) v r (by simpa using h1) (by simpa using h2)⟩ (by
              have := hm.drop (sizeT P t)
              rwa [List.drop_append_of_le_length (by omega), ← hcl, List.drop_length, List.nil_append, hcl] at this)
            have hseg : RepL F σ' lm' (m.take (sizeT P t)) r.cells.toList := by
              have := hm.take (sizeT P t)
              rwa [List.take_append_of_le_length (by omega), ← hcl, List.take_length, hcl] at this
            obtain ⟨la1, la2⟩ := leaf_agg hv hfl
            refine ⟨.cons _ _ _ _ ?_ ih1, by rw [List.flatMap_cons]; exact hrf.append ih2⟩
            unfold ofLeaves
            split
            · rename_i ha
              have hr := la1 (hagg.trans ha)
              rw [hr]
              have : r.cells.toList.toArray = r.cells := by simp
              rw [← this]
              refine .agg _ _ _ ?_
              simpa using hseg
            · rename_i ha
              have hr := la2 (by rw [hagg]; simpa using ha)
              rw [hr] at hseg
              generalize m.take (sizeT P t) = seg at hseg ⊢
              cases hseg with
              | cons a _ l _ h1 h2 => exact h1
          · cases h
        · cases h

/-- All that the function has written is left as it is. -/
def frostAll (T : Tags) (w : World) : Tags := fun b o => match T b o with
  | .cell c j => match w.cell? ⟨b, o, none⟩ with
    | some v => .fixed v
    | none => .cell c j
  | t => t
theorem frostAll_fix (T : Tags) (w : World) : (frostAll T w).fix = lendF T w := by
  funext b o
  unfold Tags.fix frostAll lendF
  cases T b o with
  | cell c j => simp only; cases w.cell? ⟨b, o, none⟩ <;> rfl
  | _ => rfl
theorem frostAll_other {T : Tags} {w : World} {b o : Nat} (h : ∀ c j, T b o ≠ .cell c j) : frostAll T w b o = T b o := by
  unfold frostAll
  split
  · rename_i c j e; exact absurd e (h c j)
  · rfl
theorem frostAll_inv {T : Tags} {σ lm : Nat → Option Nat} {h : List Cell} {ls : List LoopRec} {ps : List (Option AE)} {w : World} (I : Inv T σ lm h ls ps w) : Inv (frostAll T w) nowhere nowhere [] [] [] w := by
  refine ⟨fun b o v e => ?_, fun b o l j e => ?_, fun b o e => ?_, (fun c b e => by cases e), (fun c l e => by simp at e), (fun c x e => by simp at e), ⟨rfl, (fun i b e => by cases e)⟩, (fun i r e => by simp at e)⟩
  · rw [← Tags.fix_eq, frostAll_fix] at e
    exact (lendF_ok I b o v e).2
  · cases ht : T b o with
    | cell c k =>
      unfold frostAll at e
      rw [ht] at e
      simp only at e
      split at e <;> cases e
    | _ => rw [frostAll_other (fun c j h => by rw [ht] at h; cases h), ht] at e; rw [← ht] at e; exact I.spare b o l j e
  · refine I.live b o fun hf => e ?_
    rw [frostAll_other (fun c j h => by rw [hf] at h; cases h)]; exact hf
theorem frostAll_keeps {T T0 : Tags} {w w0 : World} (K : Keeps T0 w0 T w) : Keeps T0 w0 (frostAll T w) w := by
  refine ⟨K.os, K.tape, K.output, K.size, fun b o v e => ?_, fun b o hb e => ?_, K.cell, K.block⟩
  · have := K.fixed b o v e
    rw [frostAll_other (fun c j h => by rw [this] at h; cases h)]; exact this
  · have := K.free b o hb e
    rw [frostAll_other (fun c j h => by rw [this] at h; cases h)]; exact this

theorem freshOk_slice {e : Ty} {vs : List AV} (h : freshOk true (.slice e) vs = true) : (∃ xs, vs = [.slice true e xs]) ∨ vs = [.nil] := by
  match vs, h with
  | [.slice own e' xs], h =>
    simp only [freshOk, Bool.and_eq_true, decide_eq_true_eq] at h
    obtain ⟨rfl, rfl⟩ := h
    exact .inl ⟨xs, rfl⟩
  | [.nil], _ => exact .inr rfl

theorem bodyT_ok (hX : ProgOk X) (hS : SpecOk X) (hrec : RecOk X rec) : CallTOk X (bodyT X rec) := by
  intro g t args x h hcl F w vs hF hG hargs
  unfold bodyT at h
  split at h
  · rename_i f hf; exact hS g t f args x hf h hcl F w vs hF hG hargs
  · obtain ⟨rvs0, h', ps', h0, h2⟩ := bodyK_some hX hrec h
    obtain ⟨rvs, h1, hlen0, _, hthL, hth1⟩ := thawLK_some h0
    split at h1
    · rename_i hfr
      obtain ⟨l, hl, htake⟩ := bind_some h1
      have I0 : Inv (maskF F) nowhere nowhere [] [] [] w := by
        refine ⟨fun b o v e => ?_, fun b o l j e => ?_, fun b o e => ?_, (fun c b e => by cases e), (fun c l e => by simp at e), (fun c x e => by simp at e), ⟨rfl, (fun i b e => by cases e)⟩, (fun i r e => by simp at e)⟩
        · unfold maskF at e
          cases hf : F b o with
          | none => rw [hf] at e; cases e
          | some u => rw [hf] at e; cases e; exact (hF b o _ hf).2
        · unfold maskF at e
          cases hf : F b o <;> rw [hf] at e <;> cases e
        · unfold maskF at e
          cases hf : F b o with
          | none => rw [hf] at e; exact absurd rfl e
          | some u => exact (hF b o _ hf).1
      refine (h2 (maskF F) nowhere nowhere w vs I0 (by rw [maskF_fix]; exact hG) (by rw [maskF_fix]; exact hargs)).mono ?_
      rintro u w' ⟨T0, σ', rs, K, _, I', rfl, hres0⟩
      have hres : ResRep (frostAll T0 w').fix σ' nowhere ((frostAll T0 w').own .ret) rvs rs := by
        rw [frostAll_fix]
        rcases hres0 with ⟨v, r, rfl, rfl, hv⟩ | ⟨hne, hv⟩
        · obtain ⟨v', rfl, hv'⟩ := hth1 v rfl
          refine .inl ⟨v', r, rfl, rfl, (hv' I' hv).mono (Fix.le.refl _) (fun _ _ x => x) (fun _ _ x => x) fun j b o e => ?_⟩
          have e' : T0 b o = .spare .ret j := e
          show frostAll T0 w' b o = _
          rw [frostAll_other (fun c j h => by rw [e'] at h; cases h)]; exact e'
        · exact .inr ⟨by omega, hthL I' hv⟩
      generalize hTT : frostAll T0 w' = T' at hres
      refine ⟨T', by rw [← hTT]; exact frostAll_keeps K, by rw [← hTT]; exact frostAll_inv I', ?_⟩
      have hpair : rvs.length = rs.length ∧ ∀ (i : Nat) v r, rvs[i]? = some v → rs[i]? = some r → ∃ ow, Rep T'.fix σ' nowhere ow v r := by
        rcases hres with ⟨v, r, rfl, rfl, hv⟩ | ⟨_, hv⟩
        · refine ⟨rfl, fun i v' r' e1 e2 => ?_⟩
          cases i with
          | zero => simp at e1 e2; subst e1; subst e2; exact ⟨_, hv⟩
          | succ i => simp at e1
        · refine ⟨hv.length, fun i v' r' e1 e2 => ?_⟩
          obtain ⟨r2, e3, e4⟩ := hv.get i v' e1
          rw [e2] at e3; cases e3
          exact ⟨_, e4⟩
      have hflat := (injComps_rep (σ' := σ') (lm' := nowhere) (m := l) (resTypes X g) hl hpair)
      have hcells : RepL T'.fix σ' nowhere l (rs.flatMap fun r => r.cells.toList) := by
        -- the leaves themselves
        have : ∀ (ts : List TypeId) {vs : List AV} {l : List AV} {rs : List Value}, retLeaves X.P ts vs = some l → (vs.length = rs.length ∧ ∀ (i : Nat) v r, vs[i]? = some v → rs[i]? = some r → ∃ ow, Rep T'.fix σ' nowhere ow v r) → RepL T'.fix σ' nowhere l (rs.flatMap fun r => r.cells.toList) := by
          intro ts
          induction ts with
          | nil =>
            intro vs l rs h hp
            cases vs with
            | nil =>
              cases h
              cases rs with
              | nil => exact .nil
              | cons => simp at hp
            | cons => cases h
          | cons t ts ih =>
            intro vs l rs h hp
            cases vs with
            | nil => cases h
            | cons v vs =>
              cases rs with
              | nil => simp at hp
              | cons r rs =>
                simp only [retLeaves] at h
                split at h
                · obtain ⟨fl, hfl, h⟩ := bind_some h
                  split at h
                  · obtain ⟨l', hl', h⟩ := bind_some h
                    cases h
                    obtain ⟨ow, hv⟩ := hp.2 0 v r rfl rfl
                    rw [List.flatMap_cons]
                    exact (flat_rep hv hfl).append (ih hl' ⟨by simpa using hp.1, fun i v r h1 h2 => hp.2 (i + 1) v r (by simpa using h1) (by simpa using h2)⟩)
                  · cases h
                · cases h
        exact this _ hl hpair
      have hD := takeAll_some htake hcells
      have hlv : RepL T'.fix nowhere nowhere (t.leaves x) (rs.flatMap fun r => r.cells.toList) := repL_leaves hD
      have hin := (injComps_rep (σ' := nowhere) (lm' := nowhere) (m := t.leaves x) (resTypes X g) hl hpair hlv).1
      -- several results, or one without a right
      have plain : Rep T'.fix nowhere nowhere (T'.own .ret) (packRes (injComps X.P (resTypes X g) (t.leaves x))) (packVal rs) := by
        refine packRes_rep ?_
        have hlen := hin.length
        by_cases h1 : (injComps X.P (resTypes X g) (t.leaves x)).length = 1
        · left
          generalize injComps X.P (resTypes X g) (t.leaves x) = cs at *
          match cs, h1, hin with
          | [v], _, .cons _ r _ _ hv .nil => exact ⟨v, r, rfl, rfl, hv.mono (Fix.le.refl _) (fun _ _ x => x) (fun _ _ x => x) (fun _ _ _ x => x.elim)⟩
        · exact .inr ⟨h1, hin⟩
      cases hfre : X.fresh g with
      | false =>
        have e : injRet X g t x = packRes (injComps X.P (resTypes X g) (t.leaves x)) := by
          unfold injRet
          rw [hfre]
        rw [e]; exact plain
      | true =>
        rw [hfre] at hfr
        cases t with
        | slice e =>
          have e0 : injRet X g (.slice e) x = .slice true e x := by
            unfold injRet
            rw [hfre]
          rw [e0]
          rcases freshOk_slice hfr with ⟨xs, rfl⟩ | rfl
          · rcases hres with ⟨v, r, hv1, rfl, hv⟩ | ⟨hne, _⟩
            · cases hv1
              have hx : x = xs := by
                cases hts : resTypes X g with
                | nil => rw [hts] at hl; cases hl
                | cons t0 ts0 =>
                  rw [hts] at hl
                  simp only [retLeaves] at hl
                  split at hl
                  · obtain ⟨fl, hfl, hl⟩ := bind_some hl
                    split at hl
                    · obtain ⟨l', hl', hl⟩ := bind_some hl
                      cases hl
                      cases ts0 with
                      | cons => cases hl'
                      | nil =>
                        cases hl'
                        simp [AV.flat, AV.leafOk, AV.dull] at hfl
                        subst hfl
                        simp [takeAll, Ty.take] at htake
                        exact htake.symm
                    · cases hl
                  · cases hl
              subst hx
              cases hv with
              | slice _ _ _ _ a cap hc hrow ho => exact .slice _ _ _ _ _ _ hc hrow fun _ => ho rfl
            · exact absurd rfl hne
          · rcases hres with ⟨v, r, hv1, rfl, hv⟩ | ⟨hne, _⟩
            · cases hv1
              have hx : x = [] := by
                cases hts : resTypes X g with
                | nil => rw [hts] at hl; cases hl
                | cons t0 ts0 =>
                  rw [hts] at hl
                  simp only [retLeaves] at hl
                  split at hl
                  · obtain ⟨fl, hfl, hl⟩ := bind_some hl
                    split at hl
                    · obtain ⟨l', hl', hl⟩ := bind_some hl
                      cases hl
                      cases ts0 with
                      | cons => cases hl'
                      | nil =>
                        cases hl'
                        simp [AV.flat, AV.leafOk, AV.dull] at hfl
                        subst hfl
                        simp [takeAll, Ty.take] at htake
                        exact htake
                    · cases hl
                  · cases hl
              subst hx
              cases hv
              exact .slice _ true e [] none 0 ⟨Nat.le_refl _, fun _ => rfl, Nat.zero_le _⟩ (fun i x hx => by simp at hx) fun _ => .inl ⟨rfl, rfl⟩
            · exact absurd rfl hne
        | _ => simp [freshOk] at hfr
    · cases h1
end Go.Am

/-
  THE ABSTRACT MACHINE: rounds; the machine with fuel is sound.
-/
namespace Go.Am
open Go
variable {X : Ext} {rec : Rec}

theorem setParams_rep {F : Fix} {σ lm : Nat → Option Nat} : ∀ (ps : List Tmp) {args : List AV} {us : List Value} {l : List AV} {tm : Array Value}, RepL F σ lm args us → l.length = tm.size → (∀ t, Rep F σ lm noOwn (getT l t) (tm.getD t undef)) →
    (setParams l (ps.zip args)).length = l.length ∧ ((ps.zip us).foldl (fun (tmps : Array Value) (x : Tmp × Value) => tmps.setIfInBounds x.1 x.2) tm).size = tm.size ∧
    ∀ t, Rep F σ lm noOwn (getT (setParams l (ps.zip args)) t) (((ps.zip us).foldl (fun (tmps : Array Value) (x : Tmp × Value) => tmps.setIfInBounds x.1 x.2) tm).getD t undef) := by
  intro ps
  induction ps with
  | nil => intro args us l tm _ hl h; exact ⟨rfl, rfl, h⟩
  | cons p ps ih =>
    intro args us l tm ha hl h
    cases ha with
    | nil => exact ⟨rfl, rfl, h⟩
    | cons a u args us hu ht =>
      have h1 : ∀ t, Rep F σ lm noOwn (getT (l.set p a) t) ((tm.setIfInBounds p u).getD t undef) := fun t => by
        rw [getT_set, getD_set, hl]
        split
        · exact hu
        · exact h t
      obtain ⟨i1, i2, i3⟩ := ih (l := l.set p a) (tm := tm.setIfInBounds p u) ht (by simpa using hl) h1
      exact ⟨by simpa [setParams] using i1, by simpa using i2, i3⟩

theorem roundK_some (hX : ProgOk X) (hrec : RecOk X rec) {R : Type} {l : Nat} {args : List AV} {h : List Cell} {ls : List LoopRec} {ps : List (Option AE)} {k : AV → List Cell → List (Option AE) → Option R} {r : R}
    (hk : roundK X rec l args h ls ps k = some r) : ∃ vA h' ps', k vA h' ps' = some r ∧ ∀ T σ lm w us, Inv T σ lm h ls ps w → GlobOk X T.fix → RepL T.fix σ lm args us → CallsOk X.P (.yield l) lm us w (PostH T σ lm h ls w vA h' ps') := by
  unfold roundK at hk
  split at hk
  · rename_i lr hlr
    split at hk
    · rename_i hcond
      obtain ⟨hlen, hlp⟩ := hcond
      simp only at hk
      have hA : AmbOk { fn := lr.fn, base := h.length, nt := lr.tmps.length, loops := ls, rd := true } := loopsIn_ok hlp
      obtain ⟨e1, s1, h1, c1⟩ := codeK_some hX hrec hA lr.assign hk
      split at h1
      · rename_i hpend
        obtain ⟨e2, s2, h2, c2⟩ := codeK_some hX hrec hA lr.body h1
        refine ⟨_, _, _, h2, fun T σ lm w us I hG hargs => ?_⟩
        obtain ⟨b, lrec, f1, f2, f3, f4, f5, f6, f7, f8, f9, f10⟩ := I.loop l lr hlr
        have hsz : us.length = lrec.params.size := by
          rw [f5, ← hargs.length, hlen]; simp
        refine ⟨b, lrec, f1, f3, hsz, ?_⟩
        refine roundIn_of_wpIn (F := Fence.wide) (n := 0) trivial ?_
        rw [f6, f7]
        obtain ⟨g1, g2, g3⟩ := setParams_rep lr.params (repL_mapdull hargs) f8 f9
        have hfold : (lrec.params.zip us.toArray).foldl (fun (tmps : Array Value) (x : Tmp × Value) => tmps.setIfInBounds x.1 x.2) lrec.tmps = (lr.params.zip us).foldl (fun (tmps : Array Value) (x : Tmp × Value) => tmps.setIfInBounds x.1 x.2) lrec.tmps := by
          rw [f5, ← Array.foldl_toList]
          simp
        rw [hfold]
        have hR0 : Rel X T σ lm { fn := lr.fn, base := h.length, nt := lr.tmps.length, loops := ls, rd := true } (some b) { tmps := setParams lr.tmps (lr.params.zip (args.map AV.dull)), heap := h, pend := ps } { tmps := (lr.params.zip us).foldl (fun (tmps : Array Value) (x : Tmp × Value) => tmps.setIfInBounds x.1 x.2) lrec.tmps, defers := [] } w := by
          refine ⟨I, ?_, ?_, fun t => ?_, (fun d hd => by cases hd), List.Pairwise.nil, (fun hh => by cases hh), hG⟩
          · rw [g1, g2]; exact f8
          · rw [g2]; exact f8.symm
          · exact (g3 t).mono (Fix.le.refl _) (fun _ _ x => x) (fun _ _ x => x) (fun _ _ _ x => x.elim)
        refine c1 T σ lm (some b) _ w hR0 _ fun a1 w1 hg => ?_
        obtain ⟨T1, σ1, K1, hσ1, R1⟩ := hg
        obtain ⟨b1, rec1, p1, p2, p3, p4, p5, p6, p7, p8, p9, p10⟩ := R1.inv.loop l lr hlr
        rw [f1] at p1; cases p1
        rw [hpend] at p10
        simp only [Option.map_some, Option.some.injEq, loopState, Prod.mk.injEq] at p10
        have hready : rec1.state = .ready := p10.1.symm
        obtain ⟨K2, R2⟩ := R1.putLoop (st := .busy) (pd := none) (p := some .normal) hlr f1 p3 rfl
        have hw2 : ({ rec1 with state := .busy, pending := none } : Loop) = { rec1 with state := .busy } := by rw [p10.2]
        rw [hw2] at K2 R2
        refine ⟨_, run_beginRound p3 hready, ?_⟩
        refine c2 T1 σ1 lm (some b) a1 _ R2 _ fun a2 w2 hg2 => ?_
        obtain ⟨T3, σ3, K3, hσ3, R3⟩ := hg2
        obtain ⟨b3, rec3, q1, q2, q3, q4⟩ := R3.inv.loop l lr hlr
        rw [f1] at q1; cases q1
        have fin : ∀ (j : Option AE) (cd : Option Code), loopState j = (if cd.isNone = true then .ready else .done, cd) → cd.isNone = j.isNone → jumpOf e2 = j → ∃ v w', (Instr.endRound b cd).run X.P w2 = .ok v w' ∧ retR (PostH T σ lm h ls w (.bool (jumpOf e2).isNone) s2.heap (s2.pend.set l (jumpOf e2))) (.returned v) w' := by
          intro j cd hj hn he
          refine ⟨_, _, run_endRound cd q3, ?_⟩
          obtain ⟨K4, R4⟩ := R3.putLoop hlr f1 q3 hj
          rw [he]
          refine ⟨T3, σ3, ((K1.trans K2).trans K3).trans K4, fun c hc x e => hσ3 c hc x (hσ1 c hc x e), R4.inv, ?_⟩
          rw [hn]
          exact .bool _ _
        cases e2 with
        | normal => exact fin none none rfl rfl rfl
        | ret => exact fin (some .ret) (some .ret) rfl rfl rfl
        | exit id => exact fin (some (.exit id)) (some (.exit id)) rfl rfl rfl
      · cases h1
    · cases hk
  · cases hk

theorem bodyH_ok (hX : ProgOk X) (hH : SpecHOk X) (hrec : RecOk X rec) : CallHOk X (bodyH X rec) := by
  intro R fn args h ls ps k r hk
  unfold bodyH at hk
  simp only at hk
  split at hk
  · split at hk
    · rename_i f hf
      obtain ⟨v, h', h1, h2⟩ := hH _ f R args h _ r hf hk
      exact ⟨v, h', ps, h1, fun T σ lm w us I hG hargs => h2 T σ lm ls ps w us I hG hargs⟩
    obtain ⟨vs, h', ps', h1, h2⟩ := bodyK_some hX hrec hk
    refine ⟨_, h', ps', h1, fun T σ lm w us I hG hargs => (h2 T σ lm w us I hG hargs).mono ?_⟩
    rintro u w' ⟨T', σ', rs, K, hσ, I', rfl, hres⟩
    exact ⟨T', σ', K, hσ, I', packRes_rep hres⟩
  · exact roundK_some hX hrec hk
  · cases hk

theorem run_ok (hX : ProgOk X) (hS : SpecOk X) (hH : SpecHOk X) : ∀ n, RecOk X (run X n)
  | 0 => ⟨(fun g t args x h => by cases h), (fun R fn args h ls ps k r hk => by cases hk), (fun b sh A x y _ h => by cases h)⟩
  | n + 1 => ⟨bodyT_ok hX hS (run_ok hX hS hH n), bodyH_ok hX hH (run_ok hX hS hH n), loopD_ok hX (run_ok hX hS hH n)⟩

end Go.Am

