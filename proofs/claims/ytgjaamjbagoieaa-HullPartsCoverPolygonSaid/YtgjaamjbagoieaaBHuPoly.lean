import Derived.Test.YtgjaamjbagoieaaBHuChain
set_option linter.unusedVariables false
set_option linter.unusedSimpArgs false
set_option linter.unnecessarySimpa false
/-
  PLAIN MATHEMATICS: the hull that two chains make; a hull is one.
-/
namespace Go.Hu

/-- The steps of a chain, each from the lower to the upper. -/
def edgesOf : List Pt → List (Pt × Pt)
  | b :: a :: r => (a, b) :: edgesOf (a :: r)
  | _ => []
theorem edgesOf_idx : ∀ (l : List Pt) (i : Nat) (a b : Pt), l[i]? = some b → l[i + 1]? = some a → (a, b) ∈ edgesOf l := by
  intro l
  induction l with
  | nil => intro i a b h; simp at h
  | cons x l ih =>
    intro i a b h1 h2
    cases l with
    | nil => simp at h2
    | cons y l =>
      cases i with
      | zero => simp at h1 h2; subst h1; subst h2; simp [edgesOf]
      | succ i =>
        simp only [edgesOf, List.mem_cons]
        exact .inr (ih i a b (by simpa using h1) (by simpa using h2))
theorem edgesOf_of : ∀ (l : List Pt) (a b : Pt), (a, b) ∈ edgesOf l → ∃ i, l[i]? = some b ∧ l[i + 1]? = some a := by
  intro l
  induction l with
  | nil => intro a b h; simp [edgesOf] at h
  | cons x l ih =>
    intro a b h
    cases l with
    | nil => simp [edgesOf] at h
    | cons y l =>
      simp only [edgesOf, List.mem_cons, Prod.mk.injEq] at h
      rcases h with ⟨rfl, rfl⟩ | h
      · exact ⟨0, rfl, rfl⟩
      · obtain ⟨i, h1, h2⟩ := ih a b h
        exact ⟨i + 1, by simpa using h1, by simpa using h2⟩
theorem edgesOf_mem {l : List Pt} {a b : Pt} (h : (a, b) ∈ edgesOf l) : a ∈ l ∧ b ∈ l := by
  obtain ⟨i, h1, h2⟩ := edgesOf_of l a b h
  exact ⟨List.mem_of_getElem? h2, List.mem_of_getElem? h1⟩
theorem edgesOf_glue (x : Pt) (l : List Pt) : ∀ u : List Pt, edgesOf (u ++ x :: l) = edgesOf (u ++ [x]) ++ edgesOf (x :: l) := by
  intro u
  induction u with
  | nil => simp [edgesOf]
  | cons y u ih =>
    cases u with
    | nil => simp [edgesOf]
    | cons z u =>
      simp only [List.cons_append, edgesOf, List.cons_append] at ih ⊢
      rw [ih]

theorem good_edge {s : Bool} {ps : List Pt} : ∀ (l : List Pt), Good s ps l → ∀ a b, (a, b) ∈ edgesOf l → before s a b ∧ ∀ q ∈ ps, 0 ≤ side a b q := by
  intro l
  induction l with
  | nil => intro h; exact h.elim
  | cons x l ih =>
    intro h a b he
    cases l with
    | nil => simp [edgesOf] at he
    | cons y l =>
      obtain ⟨h1, h2, h3, h4⟩ := h
      simp only [edgesOf, List.mem_cons, Prod.mk.injEq] at he
      rcases he with ⟨rfl, rfl⟩ | he
      · exact ⟨h1, h2⟩
      · exact ih h4 a b he
theorem good_tail {s : Bool} {ps : List Pt} {b a : Pt} {r : List Pt} (h : Good s ps (b :: a :: r)) : Good s ps (a :: r) := h.2.2.2
theorem good_below {s : Bool} {ps : List Pt} : ∀ (r : List Pt) (b : Pt), Good s ps (b :: r) → ∀ x ∈ r, before s x b := by
  intro r
  induction r with
  | nil => intro b _ x hx; simp at hx
  | cons a r ih =>
    intro b h x hx
    rcases List.mem_cons.1 hx with rfl | hx
    · exact h.1
    · exact before_trans (ih a (good_tail h) x hx) h.1
theorem good_nodup {s : Bool} {ps : List Pt} : ∀ (l : List Pt), Good s ps l → l.Nodup := by
  intro l
  induction l with
  | nil => intro _; simp
  | cons b r ih =>
    intro h
    cases r with
    | nil => simp
    | cons a r =>
      refine List.nodup_cons.2 ⟨fun hb => before_irrefl (good_below _ b h b hb), ih (good_tail h)⟩
theorem strict_below {s : Bool} {ps : List Pt} : ∀ (r : List Pt) (a b : Pt), Good s ps (b :: a :: r) → ∀ x ∈ r, 0 < side a b x := by
  intro r
  induction r with
  | nil => intro a b _ x hx; simp at hx
  | cons c r ih =>
    intro a b h x hx
    have h3 : 0 < side c a b := h.2.2.1 c rfl
    rcases List.mem_cons.1 hx with rfl | hx
    · rw [side_cyc, side_cyc]; exact h3
    · have h4 := good_tail h
      have k1 := ih c a h4 x hx
      have hxa := good_below _ a h4 x (List.mem_cons_of_mem _ hx)
      rw [side_vec4] at k1
      rw [side_vec2] at h3
      rw [side_vec3]
      exact cross_pl (pos_vec hxa) (pos_vec h4.1) (pos_vec h.1) k1 (by omega)
theorem strict_above {s : Bool} {ps : List Pt} {b a : Pt} {r : List Pt} (h : Good s ps (b :: a :: r)) : ∀ u v, (u, v) ∈ edgesOf (a :: r) → 0 < side u v b := by
  intro u v he
  cases r with
  | nil => simp [edgesOf] at he
  | cons c r =>
    exact (good_extend r c a (good_tail h) h.1 (h.2.2.1 c rfl)).2 u v (edgesOf_of _ u v he)
theorem strict_chain {s : Bool} {ps : List Pt} : ∀ (l : List Pt), Good s ps l → ∀ a b, (a, b) ∈ edgesOf l → ∀ x ∈ l, x ≠ a → x ≠ b → 0 < side a b x := by
  intro l
  induction l with
  | nil => intro h; exact h.elim
  | cons y l ih =>
    intro h a b he x hx hxa hxb
    cases l with
    | nil => simp [edgesOf] at he
    | cons z l =>
      simp only [edgesOf, List.mem_cons, Prod.mk.injEq] at he
      rcases he with ⟨rfl, rfl⟩ | he
      · rcases List.mem_cons.1 hx with rfl | hx
        · exact absurd rfl hxb
        · rcases List.mem_cons.1 hx with rfl | hx
          · exact absurd rfl hxa
          · exact strict_below l _ _ h x hx
      · rcases List.mem_cons.1 hx with rfl | hx
        · exact strict_above h a b he
        · exact ih (good_tail h) a b he x hx hxa hxb

/-- A corner turns left. -/
theorem good_turn {s : Bool} {ps : List Pt} : ∀ (l : List Pt), Good s ps l → ∀ i x y z, l[i]? = some y → l[i + 1]? = some x → l[i + 2]? = some z → before s z x ∧ before s x y ∧ 0 < side z x y := by
  intro l
  induction l with
  | nil => intro h; exact h.elim
  | cons b l ih =>
    intro h i x y z h1 h2 h3
    cases l with
    | nil => simp at h2
    | cons a l =>
      cases i with
      | zero =>
        cases l with
        | nil => simp at h3
        | cons c l =>
          simp at h1 h2 h3
          subst h1; subst h2; subst h3
          exact ⟨(good_tail h).1, h.1, h.2.2.1 _ rfl⟩
      | succ i => exact ih (good_tail h) i x y z (by simpa using h1) (by simpa using h2) (by simpa using h3)

/-- A corner within the other chain is off each edge. -/
theorem strict_other {s : Bool} {ps l m : List Pt} (hl : Good s ps l) (hm : Good (!s) ps m) (hms : ∀ x ∈ m, x ∈ ps) {a b : Pt} (he : (a, b) ∈ edgesOf l) {i : Nat} {x y z : Pt} (h1 : m[i]? = some y) (h2 : m[i + 1]? = some x) (h3 : m[i + 2]? = some z) : 0 < side a b x := by
  obtain ⟨g1, g2⟩ := good_edge l hl a b he
  obtain ⟨t1, t2, t3⟩ := good_turn m hm i x y z h1 h2 h3
  rw [before_not] at t1 t2
  have hx := g2 x (hms x (List.mem_of_getElem? h2))
  have hy := g2 y (hms y (List.mem_of_getElem? h1))
  have hz := g2 z (hms z (List.mem_of_getElem? h3))
  rcases Int.lt_or_eq_of_le hx with hx | hx
  · exact hx
  · exfalso
    have e1 : side a b z = side a b x + cross (vec a b) (vec x z) := by unfold side cross vec; grind
    have e2 : side a b y = side a b x - cross (vec a b) (vec y x) := by unfold side cross vec; grind
    have e3 : cross (vec y x) (vec a b) = -cross (vec a b) (vec y x) := by unfold cross vec; grind
    have k := cross_nn (pos_vec t2) (pos_vec g1) (pos_vec t1) (u := vec y x) (v := vec a b) (w := vec x z) (by omega) (by omega)
    have e4 : side z x y = -cross (vec y x) (vec x z) := by unfold side cross vec; grind
    omega

/-! ### The polygon -/
def at_ (h : List Pt) (i : Nat) : Pt := h.getD i (0, 0)
theorem at_of {h : List Pt} {i : Nat} {x : Pt} (e : h[i]? = some x) : at_ h i = x := by simp [at_, List.getD_eq_getElem?_getD, e]
theorem get_at {h : List Pt} {i : Nat} (e : i < h.length) : h[i]? = some (at_ h i) := by
  rw [at_, List.getD_eq_getElem?_getD, List.getElem?_eq_getElem e]; rfl
theorem at_mem {h : List Pt} {i : Nat} (e : i < h.length) : at_ h i ∈ h := List.mem_of_getElem? (get_at e)
theorem mem_at {h : List Pt} {x : Pt} (e : x ∈ h) : ∃ i, i < h.length ∧ at_ h i = x := by
  obtain ⟨i, hi⟩ := List.mem_iff_getElem?.1 e
  have := (List.getElem?_eq_some_iff.1 hi).1
  exact ⟨i, this, at_of hi⟩
theorem at_inj {h : List Pt} (hn : h.Nodup) {i j : Nat} (hi : i < h.length) (hj : j < h.length) (e : at_ h i = at_ h j) : i = j := by
  have h1 := get_at hi
  have h2 := get_at hj
  rw [e, ← h2] at h1
  exact (List.getElem?_inj hi hn).1 h1

/-- The corner behind a corner. -/
def nx (h : List Pt) (i : Nat) : Nat := (i + 1) % h.length

/-- A strictly convex polygon whose corners are points of S, with all of S in it. -/
structure Ring (S : List Pt) (h : List Pt) : Prop where
  len : 3 ≤ h.length
  sub : ∀ x ∈ h, x ∈ S
  left : ∀ i, i < h.length → ∀ q ∈ S, 0 ≤ side (at_ h i) (at_ h (nx h i)) q
  strict : ∀ i, i < h.length → ∀ j, j < h.length → j ≠ i → j ≠ nx h i → 0 < side (at_ h i) (at_ h (nx h i)) (at_ h j)
structure IsHull (S : List Pt) (h : List Pt) : Prop extends Ring S h where
  first : ∀ q ∈ S, q = at_ h 0 ∨ before true (at_ h 0) q

theorem nx_lt {h : List Pt} (hl : 0 < h.length) (i : Nat) : nx h i < h.length := Nat.mod_lt _ hl

/-- The closed way: up and down, without the last point. -/
def ringOf (lo up : List Pt) : List Pt := (lo.reverse ++ up.reverse.tail).dropLast

theorem ring_edges {lo up : List Pt} (h1 : 2 ≤ lo.length) (h2 : 2 ≤ up.length) (e1 : lo.head? = up.getLast?) (e2 : up.head? = lo.getLast?) :
    (ringOf lo up).length + 2 = lo.length + up.length ∧ (∀ x, x ∈ ringOf lo up → x ∈ lo ∨ x ∈ up) ∧ (∀ i, i < (ringOf lo up).length → (at_ (ringOf lo up) i, at_ (ringOf lo up) (nx (ringOf lo up) i)) ∈ edgesOf up ++ edgesOf lo) ∧
    some (at_ (ringOf lo up) 0) = lo.getLast? := by
  obtain ⟨x, lo', rfl⟩ : ∃ x lo', lo = x :: lo' := by
    cases lo with
    | nil => simp at h1
    | cons x lo' => exact ⟨x, lo', rfl⟩
  have hlast : up.getLast? = some x := by rw [← e1]; rfl
  obtain ⟨um, rfl⟩ := List.getLast?_eq_some_iff.1 hlast
  have hv : ringOf (x :: lo') (um ++ [x]) = ((um ++ x :: lo').reverse).dropLast := by
    unfold ringOf
    congr 1
    simp
  have hlen : (ringOf (x :: lo') (um ++ [x])).length + 1 = (um ++ x :: lo').length := by
    rw [hv, List.length_dropLast, List.length_reverse]; simp; omega
  have hget : ∀ i, i < (ringOf (x :: lo') (um ++ [x])).length → (ringOf (x :: lo') (um ++ [x]))[i]? = (um ++ x :: lo')[(um ++ x :: lo').length - 1 - i]? := by
    intro i hi
    rw [hv, List.getElem?_dropLast, List.length_reverse, if_pos (by omega), List.getElem?_reverse (by omega)]
  have hmne : um ≠ [] := by
    intro e
    subst e
    simp at h2
  obtain ⟨y, um', rfl⟩ : ∃ y um', um = y :: um' := by
    cases um with
    | nil => exact absurd rfl hmne
    | cons y um' => exact ⟨y, um', rfl⟩
  have hll : (x :: lo').getLast? = some y := by rw [← e2]; rfl
  have h0 : (y :: um' ++ x :: lo')[(y :: um' ++ x :: lo').length - 1]? = some y := by
    rw [← List.getLast?_eq_getElem?]
    rw [List.getLast?_append, hll]; rfl
  have hat0 : at_ (ringOf (x :: lo') (y :: um' ++ [x])) 0 = y := at_of (by rw [hget 0 (by simp at hlen ⊢; omega), Nat.sub_zero]; exact h0)
  refine ⟨by simp at hlen ⊢; omega, fun z hz => ?_, fun i hi => ?_, by rw [hat0, hll]⟩
  · rw [hv] at hz
    have := (List.dropLast_sublist _).subset hz
    simp only [List.mem_reverse, List.mem_append] at this
    rcases this with h | h
    · exact .inr (List.mem_append_left _ h)
    · exact .inl h
  · have hg := edgesOf_glue x lo' (y :: um')
    rw [← hg]
    have hi1 := hget i hi
    have ha : (y :: um' ++ x :: lo')[(y :: um' ++ x :: lo').length - 1 - i]? = some (at_ (ringOf (x :: lo') (y :: um' ++ [x])) i) := by rw [← hi1]; exact get_at hi
    refine edgesOf_idx _ ((y :: um' ++ x :: lo').length - 1 - i - 1) _ _ ?_ (by rw [show (y :: um' ++ x :: lo').length - 1 - i - 1 + 1 = (y :: um' ++ x :: lo').length - 1 - i by omega]; exact ha)
    by_cases hn : i + 1 < (ringOf (x :: lo') (y :: um' ++ [x])).length
    · have hnx : nx (ringOf (x :: lo') (y :: um' ++ [x])) i = i + 1 := Nat.mod_eq_of_lt hn
      rw [hnx, ← get_at hn, hget _ hn]
      congr 1
    · have hnx : nx (ringOf (x :: lo') (y :: um' ++ [x])) i = 0 := by
        have : i + 1 = (ringOf (x :: lo') (y :: um' ++ [x])).length := by omega
        rw [nx, this, Nat.mod_self]
      rw [hnx, hat0]
      have : (y :: um' ++ x :: lo').length - 1 - i - 1 = 0 := by omega
      rw [this]; rfl

theorem idx_mid {l : List Pt} {x : Pt} (hx : x ∈ l) (h0 : l.head? ≠ some x) (h1 : l.getLast? ≠ some x) : ∃ i y z, l[i]? = some y ∧ l[i + 1]? = some x ∧ l[i + 2]? = some z := by
  obtain ⟨k, hk⟩ := List.mem_iff_getElem?.1 hx
  have hkl := (List.getElem?_eq_some_iff.1 hk).1
  match k with
  | 0 => exact absurd (by rw [List.head?_eq_getElem?]; exact hk) h0
  | k + 1 =>
    have hne : k + 1 ≠ l.length - 1 := fun e => h1 (by rw [List.getLast?_eq_getElem?, ← e]; exact hk)
    exact ⟨k, l[k], l[k + 2], List.getElem?_eq_getElem _, hk, List.getElem?_eq_getElem _⟩

theorem nodup_rev {l : List Pt} (h : l.Nodup) : l.reverse.Nodup := by
  unfold List.Nodup at *
  rw [List.pairwise_reverse]
  exact h.imp fun h => Ne.symm h

/-- Two chains over the same points make a hull. -/
theorem ring_hull {ps lo up : List Pt} (hlo : Good true ps lo) (hup : Good false ps up) (mlo : ∀ x ∈ lo, x ∈ ps) (mup : ∀ x ∈ up, x ∈ ps) (h1 : 2 ≤ lo.length) (h2 : 2 ≤ up.length) (e1 : lo.head? = up.getLast?) (e2 : up.head? = lo.getLast?)
    (h3 : 3 ≤ (ringOf lo up).length) (hmin : ∀ q ∈ ps, some q = lo.getLast? ∨ ∀ m, lo.getLast? = some m → before true m q) : IsHull ps (ringOf lo up) := by
  obtain ⟨r1, r2, r3, r4⟩ := ring_edges h1 h2 e1 e2
  have edge : ∀ i, i < (ringOf lo up).length → (at_ (ringOf lo up) i, at_ (ringOf lo up) (nx (ringOf lo up) i)) ∈ edgesOf lo ∨ (at_ (ringOf lo up) i, at_ (ringOf lo up) (nx (ringOf lo up) i)) ∈ edgesOf up := fun i hi => by
    rcases List.mem_append.1 (r3 i hi) with h | h
    · exact .inr h
    · exact .inl h
  -- corners apart
  have offL : ∀ {a b x : Pt}, (a, b) ∈ edgesOf lo → x ∈ lo ∨ x ∈ up → x ≠ a → x ≠ b → 0 < side a b x := fun {a b x} he hx hxa hxb => by
    by_cases hl : x ∈ lo
    · exact strict_chain lo hlo a b he x hl hxa hxb
    · have hu : x ∈ up := by rcases hx with h | h; exact absurd h hl; exact h
      obtain ⟨i, y, z, k1, k2, k3⟩ := idx_mid hu (fun e => hl (by rw [e2] at e; exact List.mem_of_getLast? e)) (fun e => hl (by rw [← e1] at e; exact List.mem_of_head? e))
      exact strict_other hlo hup mup he k1 k2 k3
  have offU : ∀ {a b x : Pt}, (a, b) ∈ edgesOf up → x ∈ lo ∨ x ∈ up → x ≠ a → x ≠ b → 0 < side a b x := fun {a b x} he hx hxa hxb => by
    by_cases hl : x ∈ up
    · exact strict_chain up hup a b he x hl hxa hxb
    · have hu : x ∈ lo := by rcases hx with h | h; exact h; exact absurd h hl
      obtain ⟨i, y, z, k1, k2, k3⟩ := idx_mid hu (fun e => hl (by rw [e1] at e; exact List.mem_of_getLast? e)) (fun e => hl (by rw [← e2] at e; exact List.mem_of_head? e))
      exact strict_other hup hlo mlo he k1 k2 k3
  have hnd : (ringOf lo up).Nodup := by
    obtain ⟨x, lo', rfl⟩ : ∃ x lo', lo = x :: lo' := by
      cases lo with
      | nil => simp at h1
      | cons x lo' => exact ⟨x, lo', rfl⟩
    have hlast : up.getLast? = some x := by rw [← e1]; rfl
    obtain ⟨um, rfl⟩ := List.getLast?_eq_some_iff.1 hlast
    obtain ⟨y, um', rfl⟩ : ∃ y um', um = y :: um' := by
      cases um with
      | nil => simp at h2
      | cons y um' => exact ⟨y, um', rfl⟩
    have hv : ringOf (x :: lo') (y :: um' ++ [x]) = (um' ++ x :: lo').reverse := by
      unfold ringOf
      have : (x :: lo').reverse ++ (y :: um' ++ [x]).reverse.tail = (um' ++ x :: lo').reverse ++ [y] := by simp
      rw [this, List.dropLast_concat]
    rw [hv]
    refine nodup_rev (List.nodup_append.2 ?_)
    have nu := good_nodup _ hup
    refine ⟨?_, good_nodup _ hlo, fun a ha b hb hab => ?_⟩
    · have := (List.nodup_cons.1 (by simpa using nu : (y :: (um' ++ [x])).Nodup)).2
      exact (List.nodup_append.1 this).1
    · subst hab
      -- within both chains
      have nu' : (y :: (um' ++ [x])).Nodup := by simpa using nu
      have hay : a ≠ y := fun e => (List.nodup_cons.1 nu').1 (by subst e; exact List.mem_append_left _ ha)
      have hax : a ≠ x := fun e => (List.nodup_append.1 (List.nodup_cons.1 nu').2).2.2 a ha x (by simp) e
      have hau : a ∈ y :: um' ++ [x] := by simp [ha]
      obtain ⟨i, p, q, k1, k2, k3⟩ := idx_mid hau (by simp [Ne.symm hay]) (by rw [List.getLast?_concat]; simp [Ne.symm hax])
      have hll : (x :: lo').getLast? = some y := by rw [← e2]; rfl
      obtain ⟨j, p', q', m1, m2, m3⟩ := idx_mid hb (by simp [Ne.symm hax]) (by rw [hll]; simp [Ne.symm hay])
      have := strict_other hlo hup mup (edgesOf_idx _ _ _ _ m1 m2) k1 k2 k3
      rw [side_self2] at this
      omega
  refine ⟨⟨h3, fun x hx => ?_, fun i hi q hq => ?_, fun i hi j hj hji hjn => ?_⟩, fun q hq => ?_⟩
  · rcases r2 x hx with h | h
    · exact mlo x h
    · exact mup x h
  · rcases edge i hi with h | h
    · exact (good_edge lo hlo _ _ h).2 q hq
    · exact (good_edge up hup _ _ h).2 q hq
  · have n1 : at_ (ringOf lo up) j ≠ at_ (ringOf lo up) i := fun e => hji (at_inj hnd hj hi e)
    have n2 : at_ (ringOf lo up) j ≠ at_ (ringOf lo up) (nx (ringOf lo up) i) := fun e => hjn (at_inj hnd hj (nx_lt (by omega) i) e)
    rcases edge i hi with h | h
    · exact offL h (r2 _ (at_mem hj)) n1 n2
    · exact offU h (r2 _ (at_mem hj)) n1 n2
  · rcases hmin q hq with h | h
    · rw [← r4] at h; exact .inl (Option.some.inj h)
    · exact .inr (h _ r4.symm)
end Go.Hu
