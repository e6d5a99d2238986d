import Derived.Test.YtigkjkmikicnnaaDoorCAmD
import Derived.Test.YtigkjkmikicnnaaDoorCFbX
import Derived.Test.YtigkjkmikicnnaaDoorCFrShelf
set_option linter.unusedVariables false
set_option linter.unusedSimpArgs false
set_option linter.unnecessarySimpa false
/-
  FRAMING: the library's functions that are not walked, by their contracts.
-/
namespace Go.Fb
open Go Go.Am Go.Proofs Go.RowKit

/-! ### Pieces -/
theorem splitO_ne (y : Int) (l : List Int) : splitB y l ≠ [] := by
  cases l with
  | nil => simp [splitB]
  | cons x l =>
    unfold splitB
    split
    · simp
    · split <;> simp

/-- The library's pieces at a separator of one byte. -/
def splitU (c : UInt8) : List UInt8 → List (List UInt8)
  | [] => [[]]
  | x :: l => if x = c then [] :: splitU c l else match splitU c l with
    | p :: r => (x :: p) :: r
    | [] => [[x]]
theorem splitU_ne (c : UInt8) (l : List UInt8) : splitU c l ≠ [] := by
  cases l with
  | nil => simp [splitU]
  | cons x l =>
    unfold splitU
    split
    · simp
    · split <;> simp

theorem index_hit0 (c : UInt8) (l : List UInt8) : Lib.index (c :: l) [c] = 0 := by
  rw [Lib.index]; simp [List.isPrefixOf]
theorem index_next (b c : UInt8) (l : List UInt8) (h : b ≠ c) : Lib.index (b :: l) [c] = if Lib.index l [c] = -1 then -1 else Lib.index l [c] + 1 := by
  have hp : ([c] : List UInt8).isPrefixOf (b :: l) = false := by simp [List.isPrefixOf, Ne.symm h]
  rw [Lib.index, hp]
  simp

theorem splitK_all (c : UInt8) : ∀ (l : List UInt8) (k : Nat), l.count c ≤ k → Lib.splitK [c] 0 k l = splitU c l := by
  intro l
  induction l with
  | nil =>
    intro k _
    cases k with
    | zero => rfl
    | succ k => unfold Lib.splitK; rw [if_pos (by simp [Lib.index])]; rfl
  | cons b l ih =>
    intro k hk
    by_cases h : b = c
    · subst h
      cases k with
      | zero => simp at hk
      | succ k =>
        unfold Lib.splitK
        rw [index_hit0]
        simp only [splitU, if_true]
        rw [if_neg (by decide)]
        simp only [Int.toNat_zero, Nat.zero_add, List.take_zero, List.length_cons, List.length_nil, List.drop_succ_cons, List.drop_zero]
        rw [ih k (by simp at hk; omega)]
    · have hc : (b :: l).count c = l.count c := List.count_cons_of_ne (by simpa using h)
      rw [hc] at hk
      have hi := ih k hk
      simp only [splitU, if_neg h]
      cases k with
      | zero =>
        simp only [Lib.splitK] at hi ⊢
        rw [← hi]
      | succ k =>
        unfold Lib.splitK at hi ⊢
        rw [index_next b c l h]
        by_cases hm : Lib.index l [c] = -1
        · rw [if_pos (by rw [hm]; rfl)] at hi
          rw [if_pos (by rw [if_pos hm]; rfl), ← hi]
        · have hge := Lib.index_ge l [c]
          rw [if_neg (by simpa using hm)] at hi
          rw [if_neg hm, if_neg (by simp; omega), ← hi]
          simp only [List.length_cons, List.length_nil, Nat.add_zero]
          have e : (Lib.index l [c] + 1).toNat = (Lib.index l [c]).toNat + 1 := by omega
          rw [e]
          simp

theorem ofNat_inj {x y : Int} (hx : okB x = true) (hy : okB y = true) : UInt8.ofNat x.toNat = UInt8.ofNat y.toNat ↔ x = y := by
  rw [okB_iff] at hx hy
  constructor
  · intro h
    have := congrArg UInt8.toNat h
    simp only [UInt8.toNat_ofNat'] at this
    omega
  · rintro rfl; rfl

theorem splitU_bytes {y : Int} (hy : okB y = true) : ∀ {l : List Int}, okBs l = true → splitU (UInt8.ofNat y.toNat) (Lib.bytesOf l) = (splitB y l).map Lib.bytesOf := by
  intro l
  induction l with
  | nil => intro _; rfl
  | cons x l ih =>
    intro h
    simp only [okBs, List.all_cons, Bool.and_eq_true] at h
    have e : Lib.bytesOf (x :: l) = UInt8.ofNat x.toNat :: Lib.bytesOf l := rfl
    rw [e]
    simp only [splitU, splitB]
    rw [ih h.2]
    by_cases hxy : x = y
    · subst hxy; simp; rfl
    · rw [if_neg hxy, if_neg (by rw [ofNat_inj h.1 hy]; exact hxy)]
      cases hs : splitB y l with
      | nil => exact absurd hs (splitO_ne y l)
      | cons p r => rfl

theorem bytesOf_inj {xs ys : List Int} (hx : okBs xs = true) (hy : okBs ys = true) : (Lib.bytesOf xs == Lib.bytesOf ys) = decide (xs = ys) := by
  have : Lib.bytesOf xs = Lib.bytesOf ys ↔ xs = ys := by
    constructor
    · intro h
      induction xs generalizing ys with
      | nil => cases ys with
        | nil => rfl
        | cons => simp [Lib.bytesOf] at h
      | cons x xs ih => cases ys with
        | nil => simp [Lib.bytesOf] at h
        | cons y ys =>
          simp only [okBs, List.all_cons, Bool.and_eq_true] at hx hy
          simp only [Lib.bytesOf, List.map_cons, List.cons.injEq] at h
          rw [(ofNat_inj hx.1 hy.1).1 h.1, ih (ys := ys) hx.2 hy.2 h.2]
    · rintro rfl; rfl
  by_cases h : xs = ys
  · subst h; simp
  · rw [decide_eq_false h, beq_eq_false_iff_ne]
    exact fun e => h (this.1 e)

theorem okBs_mem {l : List Int} (h : okBs l = true) : ∀ x ∈ l, 0 ≤ x ∧ x < 256 := fun x hx => by
  unfold okBs at h
  rw [List.all_eq_true] at h
  exact okB_iff.1 (h x hx)

variable {m : Int}

theorem two {P : List AV → Prop} {F : Fix} {args : List AV} {vs : List Value} {a b : AV} (he : args = [a, b]) (h : RepL F nowhere nowhere args vs) : ∃ u v, vs = [u, v] ∧ Rep F nowhere nowhere noOwn a u ∧ Rep F nowhere nowhere noOwn b v := by
  subst he
  cases h with
  | cons _ u _ _ h1 t => cases t with
    | cons _ v _ _ h2 t => cases t; exact ⟨u, v, rfl, h1, h2⟩

theorem cellsAt {F : Fix} {w : World} (hF : FixOk F w) {ad : Addr} {xs : List Int} (h : ∀ i x, xs[i]? = some x → ∃ b, some ad = some b ∧ FixAt F b i (.int .u8 x)) : ∀ i, i < xs.length → w.cell? (ad.add i) = some (.int .u8 (xs.getD i 0)) := fun i hi => by
  obtain ⟨b, e1, e2⟩ := h i xs[i] (List.getElem?_eq_getElem hi)
  cases e1
  rw [fixAt_cell hF e2]
  simp [List.getD, List.getElem?_eq_getElem hi]

theorem bytesIn {F : Fix} {w : World} (hF : FixOk F w) {ad : Option Addr} {xs : List Int} (h : ∀ i x, xs[i]? = some x → ∃ b, ad = some b ∧ FixAt F b i (.int .u8 x)) : Lib.BytesIn w ad xs.length xs := by
  cases ad with
  | none =>
    cases xs with
    | nil => unfold Lib.BytesIn; simp
    | cons x xs => obtain ⟨b, e, _⟩ := h 0 x rfl; cases e
  | some a =>
    exact Lib.BytesIn.of_cells (cellsAt hF h)

theorem equal_ok {args : List AV} {x : Bool} (h : specEqual args = some x) {F : Fix} {w : World} {vs : List Value} (hF : FixOk F w) (hv : RepL F nowhere nowhere args vs) :
    CallsOk (X0 m).P (.func 29) nowhere vs w (PostT (X0 m) 29 .bool x F w) := by
  unfold specEqual at h
  split at h
  · rename_i a b
    obtain ⟨xs, hx, h⟩ := bind_some h
    obtain ⟨ys, hy, h⟩ := bind_some h
    split at h
    · rename_i hok
      cases h
      cases hv with
      | cons _ u _ _ h1 t => cases t with
        | cons _ v _ _ h2 t =>
          cases t
          obtain ⟨ad, cap, rfl, _, _, _, e1⟩ := row_arg hx h1
          obtain ⟨bd, cbp, rfl, _, _, _, e2⟩ := row_arg hy h2
          refine callsOk_of (X := X0 m) Tryd.func29 rfl ((Tryd.bytes_Equal_all ad bd xs.length cap ys.length cbp xs ys w rfl rfl (bytesIn hF e1) (bytesIn hF e2)).mono ?_)
          rintro e w' ⟨rfl, rfl⟩
          refine ⟨_, rfl, postT_new hF (Below.refl _ _) ?_⟩
          have hi : ∀ x, injRet (X0 m) 29 .bool x = .bool x := fun x => by kernel_rfl
          rw [hi, bytesOf_inj hok.1 hok.2]
          exact .bool _ _
    · cases h
  · cases h

theorem clone_ok {args : List AV} {x : List Int} (h : specClone args = some x) {F : Fix} {w : World} {vs : List Value} (hF : FixOk F w) (hv : RepL F nowhere nowhere args vs) :
    CallsOk (X0 m).P (.func 32) nowhere vs w (PostT (X0 m) 32 (.slice (.int .u8)) x F w) := by
  have hi : ∀ x, injRet (X0 m) 32 (.slice (.int .u8)) x = .slice false (.int .u8) x := fun x => by kernel_rfl
  unfold specClone at h
  split at h
  · rename_i a
    obtain ⟨xs, hx, h⟩ := bind_some h
    split at h
    · rename_i hok
      cases h
      cases hv with
      | cons _ u _ _ h1 t =>
        cases t
        obtain ⟨ad, cap, rfl, _, hnil, _, e1⟩ := row_arg hx h1
        cases ad with
        | none =>
          have hx0 : x = [] := by
            cases x with
            | nil => rfl
            | cons z xs => obtain ⟨b, e, _⟩ := e1 0 z rfl; cases e
          subst hx0
          refine callsOk_of (X := X0 m) Tryd.func32 rfl ((Tryd.bytes_Clone_nil 0 cap w).mono ?_)
          rintro e w' ⟨rfl, rfl⟩
          refine ⟨_, rfl, postT_new hF (Below.refl _ _) ?_⟩
          rw [hi]
          exact .slice _ _ _ _ none 0 ⟨Nat.le_refl _, (fun _ => rfl), Nat.zero_le _⟩ (fun i x hx => by simp at hx) fun h => by cases h
        | some a =>
          refine callsOk_of (X := X0 m) Tryd.func32 rfl ((Tryd.bytes_Clone_at a x.length cap x w rfl hok (cellsAt hF e1)).mono ?_)
          rintro e w' ⟨v', rfl, ⟨hl, hown⟩, hne, hB⟩
          refine ⟨_, rfl, postT_new hF hB ?_⟩
          rw [hi]
          rcases hown with ⟨rfl, _⟩ | ⟨g, cp, cur, rfl, hg, hh, hc1, hc2, hc3, hc4⟩
          · exact absurd rfl hne
          · refine .slice _ _ _ _ _ _ ⟨hc1, (fun h => by cases h), hc2⟩ (fun i z hz => ?_) fun h => by cases h
            refine ⟨[.int .u8 z], rfl, fun j v hj => ⟨_, rfl, ?_⟩⟩
            cases j with
            | succ j => simp at hj
            | zero =>
              simp only [List.getElem?_cons_zero, Option.some.injEq] at hj
              subst hj
              unfold FixAt
              rw [add_none]
              refine ⟨rfl, newF_new hg ?_⟩
              have hi' : i < x.length := (List.getElem?_eq_some_iff.1 hz).1
              have h2 : (x.map (Value.int .u8))[i]? = some (.int .u8 z) := by rw [List.getElem?_map, hz]; rfl
              rw [← hc4, Nat.mul_one, List.getElem?_take, if_pos hi'] at h2
              simp only [World.cell?, hh, Ty.width, Nat.mul_one, Nat.add_zero, Nat.zero_add, Option.isSome_none, Bool.false_eq_true, if_false]
              simpa using h2
    · cases h
  · cases h

theorem splitU_length (c : UInt8) : ∀ l : List UInt8, (splitU c l).length = l.count c + 1
  | [] => rfl
  | x :: l => by
    unfold splitU
    by_cases h : x = c
    · subst h; simp [splitU_length]
    · rw [if_neg h, List.count_cons_of_ne (by simpa using h), ← splitU_length c l]
      split
      · rename_i e; rw [e]; simp
      · rename_i e; exact absurd e (splitU_ne c l)

theorem splitB_ok {y : Int} : ∀ {l : List Int}, okBs l = true → ∀ p ∈ splitB y l, okBs p = true := by
  intro l
  induction l with
  | nil => intro _ p hp; simp [splitB] at hp; subst hp; rfl
  | cons x l ih =>
    intro h p hp
    simp only [okBs, List.all_cons, Bool.and_eq_true] at h
    unfold splitB at hp
    split at hp
    · rcases List.mem_cons.1 hp with rfl | hp
      · rfl
      · exact ih h.2 p hp
    · split at hp
      · rename_i q r e
        rcases List.mem_cons.1 hp with rfl | hp
        · have := ih h.2 q (by rw [e]; simp)
          simp only [okBs, List.all_cons, Bool.and_eq_true]
          exact ⟨h.1, this⟩
        · exact ih h.2 p (by rw [e]; simp [hp])
      · simp at hp; subst hp; simp [okBs, h.1]

theorem splitV_cap (sep : List UInt8) (hs : sep ≠ []) : ∀ (k : Nat) (a : Addr) (cap : Nat) (l : List UInt8), l.length ≤ cap → ∀ v ∈ Lib.splitV sep 0 k a cap l, ∃ a' n c, v = .slice a' n c ∧ c ≤ cap := by
  intro k
  induction k with
  | zero => intro a cap l hl v hv; simp [Lib.splitV] at hv; subst hv; exact ⟨_, _, _, rfl, Nat.le_refl _⟩
  | succ k ih =>
    intro a cap l hl v hv
    unfold Lib.splitV at hv
    split at hv
    · simp at hv; subst hv; exact ⟨_, _, _, rfl, Nat.le_refl _⟩
    · rename_i hm
      have hne : Lib.index l sep ≠ -1 := fun e => hm (beq_iff_eq.2 e)
      have hge := Lib.index_ge l sep
      have hroom := Lib.index_room l sep (by omega)
      rcases List.mem_cons.1 hv with rfl | hv
      · exact ⟨_, _, _, rfl, by omega⟩
      · obtain ⟨a', n, c, e1, e2⟩ := ih _ _ _ (by rw [List.length_drop]; omega) v hv
        exact ⟨a', n, c, e1, by omega⟩

theorem split_ok {args : List AV} {x : List (List Int)} (h : specSplit args = some x) {F : Fix} {w : World} {vs : List Value} (hF : FixOk F w) (hG : GlobOk (X0 m) F) (hv : RepL F nowhere nowhere args vs) :
    CallsOk (X0 m).P (.func 40) nowhere vs w (PostT (X0 m) 40 (.slice (.slice (.int .u8))) x F w) := by
  have hi : ∀ x, injRet (X0 m) 40 (.slice (.slice (.int .u8))) x = .slice false (.slice (.int .u8)) x := fun x => by kernel_rfl
  have hm : w.cell? ⟨0, 0, none⟩ = some (.int .i64 m) := by
    obtain ⟨gs, g1, g2⟩ := hG 0 [.int .i64 m] rfl
    cases g1 with
    | cons _ v _ _ h1 t =>
      cases h1
      have := fixAt_cell hF (g2 0 _ rfl)
      rwa [add_none] at this
  unfold specSplit at h
  split at h
  · rename_i a b
    obtain ⟨xs, hx, h⟩ := bind_some h
    obtain ⟨ys, hy, h⟩ := bind_some h
    split at h
    · rename_i y
      split at h
      · rename_i hok
        obtain ⟨hok1, hok2, hlen⟩ := hok
        cases h
        cases hv with
        | cons _ u _ _ h1 t => cases t with
          | cons _ v _ _ h2 t =>
            cases t
            obtain ⟨ad, cap, rfl, hcap, hnil, hmax, e1⟩ := row_arg hx h1
            obtain ⟨bd, cbp, rfl, _, _, _, e2⟩ := row_arg hy h2
            obtain ⟨b2, rfl, hb2⟩ := e2 0 y rfl
            have hcy : w.cell? (b2.add 0) = some (.int .u8 y) := fixAt_cell hF hb2
            cases ad with
            | none =>
              have hx0 : xs = [] := by
                cases xs with
                | nil => rfl
                | cons x xs => obtain ⟨b, e, _⟩ := e1 0 x rfl; cases e
              subst hx0
              have hc0 := hnil rfl
              subst hc0
              refine callsOk_of (X := X0 m) Tryd.func40 rfl ((Tryd.bytes_Split_nil (some b2) 1 cbp w (Nat.le_refl _) (by decide) fun _ => ?_).mono ?_)
              · have h3 := cell_lt hcy
                refine ⟨b2.block, b2.off, y, ?_, ?_⟩
                · have h4 : b2.spot = none := by simpa [Addr.add] using h3.2
                  rw [← h4]
                · have h4 : b2.spot = none := by simpa [Addr.add] using h3.2
                  rw [← h4]
                  simpa [Addr.add] using hcy
              · rintro e w' ⟨rfl, rfl⟩
                refine ⟨_, rfl, postT_new hF ((Below.refl _ w).alloc (Nat.le_refl _) _) ?_⟩
                rw [hi]
                refine .slice _ _ _ _ _ _ ⟨Nat.le_refl _, (fun h => by cases h), by decide⟩ (fun i x hx => ?_) fun h => by cases h
                have hx' : i = 0 ∧ x = [] := by
                  cases i with
                  | zero => simp only [splitB, List.getElem?_cons_zero, Option.some.injEq] at hx; exact ⟨rfl, hx.symm⟩
                  | succ i => simp [splitB] at hx
                obtain ⟨rfl, rfl⟩ := hx'
                refine ⟨[.slice none 0 0], ⟨none, 0, rfl, ⟨Nat.le_refl _, (fun _ => rfl), Nat.zero_le _⟩, fun i x hx => by simp at hx⟩, fun j v hj => ⟨_, rfl, ?_⟩⟩
                cases j with
                | succ j => simp at hj
                | zero =>
                  simp only [List.getElem?_cons_zero, Option.some.injEq] at hj
                  subst hj
                  unfold FixAt
                  rw [add_none]
                  exact ⟨rfl, newF_new (Nat.le_refl _) alloc_cells_get⟩
            | some a1 =>
              have hbo : Lib.bytesOf [y] = [UInt8.ofNat y.toNat] := rfl
              refine callsOk_of (X := X0 m) Tryd.func40 rfl ((Tryd.bytes_Split a1 b2 xs.length cap 1 cbp xs [y] m w rfl rfl (okBs_mem hok1) (fun z hz => by simp at hz; subst hz; exact okB_iff.1 hok2) (cellsAt hF e1) (fun i hi => ?_) hcap hlen (by decide) (by unfold maxLen at hmax; omega) (Nat.le_refl _) hm).mono ?_)
              · have : i = 0 := by omega
                subst this
                exact hcy
              rintro e w' ⟨rfl, q, rfl⟩
              have hK : Lib.splitK [UInt8.ofNat y.toNat] 0 (Lib.count (Lib.bytesOf xs) [UInt8.ofNat y.toNat]) (Lib.bytesOf xs) = (splitB y xs).map Lib.bytesOf := by
                rw [splitK_all _ _ _ (by rw [Lib.count_one]; exact Nat.le_refl _), splitU_bytes hok2 hok1]
              have hcl : (splitB y xs).length = Lib.count (Lib.bytesOf xs) [UInt8.ofNat y.toNat] + 1 := by
                rw [Lib.count_one, ← splitU_length, splitU_bytes hok2 hok1, List.length_map]
              rw [hbo, ← hcl]
              have hlv : (Lib.splitV [UInt8.ofNat y.toNat] 0 (Lib.count (Lib.bytesOf xs) [UInt8.ofNat y.toNat]) a1 cap (Lib.bytesOf xs)).length = (splitB y xs).length := by
                rw [Lib.splitV_length, hK, List.length_map]
              refine ⟨_, rfl, postT_new (w' := (w.alloc (.cells (Lib.splitV [UInt8.ofNat y.toNat] 0 (Lib.count (Lib.bytesOf xs) [UInt8.ofNat y.toNat]) a1 cap (Lib.bytesOf xs)).toArray 25)).drewN q) hF ?_ ?_⟩
              · have hb := (Below.refl _ w).alloc (Nat.le_refl _) (.cells (Lib.splitV [UInt8.ofNat y.toNat] 0 (Lib.count (Lib.bytesOf xs) [UInt8.ofNat y.toNat]) a1 cap (Lib.bytesOf xs)).toArray 25)
                exact ⟨hb.os, hb.tape, hb.output, hb.size, hb.block⟩
              · rw [hi]
                refine .slice _ _ _ _ _ _ ⟨Nat.le_refl _, (fun h => by cases h), ?_⟩ (fun i p hp => ?_) fun h => by cases h
                · rw [hcl, Lib.count_one]
                  have := List.count_le_length (a := UInt8.ofNat y.toNat) (l := Lib.bytesOf xs)
                  rw [Lib.bytesOf_length] at this
                  unfold maxLen
                  omega
                · have hil : i < (splitB y xs).length := (List.getElem?_eq_some_iff.1 hp).1
                  have hvi := List.getElem?_eq_getElem (l := Lib.splitV [UInt8.ofNat y.toNat] 0 (Lib.count (Lib.bytesOf xs) [UInt8.ofNat y.toNat]) a1 cap (Lib.bytesOf xs)) (i := i) (by omega)
                  generalize hvv : (Lib.splitV [UInt8.ofNat y.toNat] 0 (Lib.count (Lib.bytesOf xs) [UInt8.ofNat y.toNat]) a1 cap (Lib.bytesOf xs))[i]'(by omega) = vv at hvi
                  obtain ⟨a', off, len, cp, k1, k2, k3, k4, k5⟩ := Lib.splitV_spec [UInt8.ofNat y.toNat] 0 (by simp) (Nat.zero_le _) _ a1 cap (Lib.bytesOf xs) (by rw [Lib.bytesOf_length]; exact hcap) i vv hvi
                  obtain ⟨a3, n3, c3, j1, j2⟩ := splitV_cap [UInt8.ofNat y.toNat] (by simp) _ a1 cap (Lib.bytesOf xs) (by rw [Lib.bytesOf_length]; exact hcap) vv (List.mem_of_getElem? hvi)
                  rw [k1] at j1
                  cases j1
                  rw [hK, List.getElem?_map, hp] at k4
                  rw [Lib.bytesOf_length] at k3
                  have hpe : p = (xs.drop off).take len := by
                    have h5 : Lib.bytesOf p = Lib.bytesOf ((xs.drop off).take len) := by
                      have := Option.some.inj k4
                      rw [this]
                      simp [Lib.bytesOf, List.map_take, List.map_drop]
                    have h6 : okBs ((xs.drop off).take len) = true := by
                      unfold okBs at hok1 ⊢
                      rw [List.all_eq_true] at hok1 ⊢
                      exact fun z hz => hok1 z (List.mem_of_mem_drop (List.mem_of_mem_take hz))
                    have h7 := bytesOf_inj (splitB_ok hok1 p (List.mem_of_getElem? hp)) h6
                    rw [h5] at h7
                    simpa using h7.symm
                  have hpl : p.length = len := by rw [hpe, List.length_take, List.length_drop]; omega
                  refine ⟨[.slice (some a') len cp], ⟨some a', cp, by rw [hpl], ⟨by rw [hpl]; exact k2, (fun h => by cases h), Nat.le_trans j2 hmax⟩, fun j z hz => ?_⟩, fun j v hj => ⟨_, rfl, ?_⟩⟩
                  · have hjl : j < len := by have := (List.getElem?_eq_some_iff.1 hz).1; omega
                    refine ⟨[.int .u8 z], rfl, fun q v hq => ⟨_, rfl, ?_⟩⟩
                    cases q with
                    | succ q => simp at hq
                    | zero =>
                      simp only [List.getElem?_cons_zero, Option.some.injEq] at hq
                      subst hq
                      have hz' : xs[off + j]? = some z := by
                        rw [hpe, List.getElem?_take, if_pos hjl, List.getElem?_drop] at hz
                        exact hz
                      obtain ⟨b, eb, hfx⟩ := e1 (off + j) z hz'
                      cases eb
                      have := hfx.mono (newF_le (w' := (w.alloc (.cells (Lib.splitV [UInt8.ofNat y.toNat] 0 (Lib.count (Lib.bytesOf xs) [UInt8.ofNat y.toNat]) a1 cap (Lib.bytesOf xs)).toArray 25)).drewN q) hF)
                      unfold FixAt at this ⊢
                      simp only [Ty.width, Nat.mul_one, Nat.add_zero]
                      rw [k5 j hjl]
                      exact this
                  · cases j with
                    | succ j => simp at hj
                    | zero =>
                      simp only [List.getElem?_cons_zero, Option.some.injEq] at hj
                      subst hj
                      unfold FixAt
                      rw [add_none]
                      refine ⟨rfl, newF_new (Nat.le_refl _) ?_⟩
                      rw [World.cell?_drewN]
                      refine alloc_cells_get.trans ?_
                      simp only [Ty.width, Nat.mul_one, Nat.add_zero, Nat.zero_add]
                      rw [← k1]
                      simpa using hvi
      · cases h
    · cases h
  · cases h

theorem grow_ok {args : List AV} {x : List Int} (h : specGrow args = some x) {F : Fix} {w : World} {vs : List Value} (hF : FixOk F w) (hv : RepL F nowhere nowhere args vs) :
    CallsOk (X0 m).P (.func 42) nowhere vs w (PostT (X0 m) 42 (.slice (.int .u8)) x F w) := by
  have hi : ∀ x, injRet (X0 m) 42 (.slice (.int .u8)) x = .slice true (.int .u8) x := fun x => by kernel_rfl
  unfold specGrow at h
  split at h
  · rename_i n
    split at h
    · rename_i hn
      cases h
      cases hv with
      | cons _ u _ _ h1 t => cases t with
        | cons _ v _ _ h2 t =>
          cases t
          cases h1
          cases h2
          obtain ⟨k, rfl⟩ : ∃ k : Nat, n = k := ⟨n.toNat, by omega⟩
          by_cases hk : k = 0
          · subst hk
            refine callsOk_of (X := X0 m) Tryd.func42 rfl ((Any8.slices_Grow_room Tryd.grow none 0 0 0 w (Nat.le_refl _) (by decide) (by decide) (by decide)).mono ?_)
            rintro e w' ⟨rfl, rfl⟩
            refine ⟨_, rfl, postT_new hF (Below.refl _ _) ?_⟩
            rw [hi]
            exact .slice _ _ _ _ none 0 ⟨Nat.le_refl _, (fun _ => rfl), Nat.zero_le _⟩ (fun i x hx => by simp at hx) fun h => .inl ⟨rfl, rfl⟩
          · refine callsOk_of (X := X0 m) Tryd.func42 rfl ((Any8.slices_Grow_grow Tryd.grow Tryd.t5 (.int .u8 0) (by kernel_rfl) (by kernel_rfl) (by
              have : Tryd.t5.size = 1 := by kernel_rfl
              omega) none 0 0 k [] w (Nat.le_refl _) (by omega) (by
              have : Tryd.t5.bytes = 1 := by kernel_rfl
              rw [this]; omega) (by omega) rfl (fun _ => rfl) (fun a e => by cases e)).mono ?_)
            rintro e w' ⟨rfl, rfl⟩
            have hge := grownCap_ge w (0 + k) 0 (Tryd.grow_ren.t 25)
            have hle := grownCap_le_maxLen w (0 + k) 0 (Tryd.grow_ren.t 25) (by unfold maxLen; omega)
            generalize grownCap w (0 + k) 0 (Tryd.grow_ren.t 25) = cap at hge hle ⊢
            have I0 : Inv (maskF F) nowhere nowhere [] [] [] w.drew := (inv_mask hF).of_heap rfl
            generalize hcs : (([] : List Value).toArray ++ Builtin.zeroCells (Value.int .u8 0).cells (0 + k - 0) ++ Builtin.zeroCells (Value.int .u8 0).cells (cap - (0 + k)) : Array Value) = cs
            have hsz : cs.size = cap := by
              rw [← hcs, Array.size_append, Array.size_append, size_zeroCells, size_zeroCells]
              simp [Value.cells]
              omega
            refine ⟨_, rfl, (maskF F).new w.drew.heap.size (fun o => if o < cap then .spare .ret 0 else .free), (Keeps.drew _ _).trans (I0.keeps_alloc _ _), I0.alloc _ _ ?_ ?_, ?_⟩
            · intro o v e
              split at e <;> cases e
            · intro o l j e
              split at e
              · rename_i ho
                refine ⟨?_, World.frozen?_alloc_new _ _ _ _⟩
                rw [alloc_cells_get]
                simp [hsz, ho]
              · cases e
            · rw [hi]
              refine .slice _ _ _ _ _ _ ⟨Nat.zero_le _, (fun h => by cases h), hle⟩ (fun i x hx => by simp at hx) fun _ => .inr ⟨w.heap.size, 0, rfl, fun i h1 h2 => ?_⟩
              unfold Tags.own Tags.new
              have h3 : w.drew.heap.size = w.heap.size := rfl
              simp only [Ty.width, Nat.mul_one] at h2
              rw [h3, if_pos rfl, Nat.zero_add]
              exact if_pos h2
    · cases h
  · cases h

theorem spec_ok (m : Int) : SpecOk (X0 m) := by
  intro g t f args x hf hx _ F w vs hF hG hv
  change specTab g t = some f at hf
  unfold specTab at hf
  split at hf
  · split at hf
    · rename_i hg
      subst hg; cases hf
      exact equal_ok hx hF hv
    · cases hf
  · split at hf
    · rename_i hg
      subst hg; cases hf
      exact clone_ok hx hF hv
    · split at hf
      · rename_i hg
        subst hg; cases hf
        exact grow_ok hx hF hv
      · cases hf
  · split at hf
    · rename_i hg
      subst hg; cases hf
      exact split_ok hx hF hG hv
    · cases hf
  · cases hf

theorem prog_ok (m : Int) : ProgOk (X0 m) := {
  name := by
    have h : (Tryd.prog.funcs.toList.all fun f => !(f.name == "runtime.NumGoroutine")) = true := by kernel_rfl
    intro g fd hg
    rw [List.all_eq_true] at h
    have := h fd (by
      have h2 : Tryd.prog.funcs[g]? = some fd := hg
      rw [← Array.getElem?_toList] at h2
      exact List.mem_of_getElem? h2)
    simpa using this
  mixed := by kernel_rfl }
end Go.Fb
