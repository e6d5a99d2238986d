import Derived.Test.YtigkjkmikicnnaaDoorCFbMath
set_option linter.unusedVariables false
set_option linter.unusedSimpArgs false
set_option linter.unnecessarySimpa false
/-
  FRAMING: plain Lean: what decoding gives.
-/
namespace Go.Fb
open Go Go.Am

/-! ### Pieces -/
theorem splitB_ne {y : Int} (l : List Int) : splitB y l ≠ [] := by
  cases l with
  | nil => simp [splitB]
  | cons x l =>
    unfold splitB
    split
    · simp
    · split <;> simp
theorem splitB_none {y : Int} : ∀ {l : List Int}, y ∉ l → splitB y l = [l] := by
  intro l
  induction l with
  | nil => intro _; rfl
  | cons x l ih =>
    intro h
    simp only [List.mem_cons, not_or] at h
    unfold splitB
    rw [if_neg (fun e => h.1 e.symm), ih h.2]
theorem splitB_append {y : Int} (b : List Int) : ∀ (a : List Int), splitB y (a ++ y :: b) = splitB y a ++ splitB y b := by
  intro a
  induction a with
  | nil =>
    simp [splitB]
  | cons x a ih =>
    show splitB y (x :: (a ++ y :: b)) = _
    rw [splitB, ih]
    by_cases h : x = y
    · rw [if_pos h, splitB, if_pos h]; rfl
    · rw [if_neg h, splitB, if_neg h]
      cases hs : splitB y a with
      | nil => exact absurd hs (splitB_ne a)
      | cons p r => rfl
theorem splitB_free {y : Int} : ∀ {l : List Int}, ∀ p ∈ splitB y l, y ∉ p := by
  intro l
  induction l with
  | nil => intro p hp; simp [splitB] at hp; subst hp; simp
  | cons x l ih =>
    intro p hp
    unfold splitB at hp
    split at hp
    · rcases List.mem_cons.1 hp with rfl | hp
      · simp
      · exact ih p hp
    · rename_i hx
      split at hp
      · rename_i q r e
        rcases List.mem_cons.1 hp with rfl | hp
        · have := ih q (by rw [e]; simp)
          simp only [List.mem_cons, not_or]
          exact ⟨fun h => hx h.symm, this⟩
        · exact ih p (by rw [e]; simp [hp])
      · simp at hp; subst hp; simpa using fun h => hx h.symm

/-! ### Unescaping -/
theorem plain_cons_ne {x : Int} (h : x ≠ 125) (r : List Int) : plain (x :: r) = x :: plain r := by
  cases r with
  | nil => unfold plain; rfl
  | cons y r => rw [plain]; rw [if_neg h]
theorem plain_esc' (y : Int) (r : List Int) : plain (125 :: y :: r) = x32 y :: plain r := by rw [plain]; rw [if_pos rfl]
theorem plain_escs (c : List Int) : plain (c.flatMap esc) = c := by
  induction c with
  | nil => unfold plain; rfl
  | cons x c ih =>
    rw [List.flatMap_cons]
    unfold esc
    by_cases h1 : x = 126
    · rw [if_pos h1]
      show plain (125 :: 94 :: c.flatMap esc) = _
      rw [plain_esc', ih, h1]
      have : x32 94 = 126 := by decide
      rw [this]
    · rw [if_neg h1]
      by_cases h2 : x = 125
      · rw [if_pos h2]
        show plain (125 :: 93 :: c.flatMap esc) = _
        rw [plain_esc', ih, h2]
        have : x32 93 = 125 := by decide
        rw [this]
      · rw [if_neg h2]
        show plain (x :: c.flatMap esc) = _
        rw [plain_cons_ne h2, ih]
theorem esc_free (x : Int) : (126 : Int) ∉ esc x := by
  unfold esc
  split
  · decide
  · split
    · decide
    · rename_i h _
      simpa using fun e => h e.symm
theorem escs_free (c : List Int) : (126 : Int) ∉ c.flatMap esc := by
  intro h
  obtain ⟨x, _, h⟩ := List.mem_flatMap.1 h
  exact esc_free x h

/-! ### Messages -/
theorem num_four {n : Int} (h : odd n = false) : num (n % 256) (n / 256 % 256) (n / 65536 % 256) (n / 16777216 % 256) = n := by
  unfold odd at h
  simp only [Bool.or_eq_false_iff, decide_eq_false_iff_not] at h
  unfold num
  omega
theorem nums_fours (s t : Int) : ∀ (l : List Int), l.any odd = false → nums (l.flatMap four ++ [s, t]) = l := by
  intro l
  induction l with
  | nil => intro _; rfl
  | cons x l ih =>
    intro h
    simp only [List.any_cons, Bool.or_eq_false_iff] at h
    show nums (x % 256 :: x / 256 % 256 :: x / 65536 % 256 :: x / 16777216 % 256 :: (l.flatMap four ++ [s, t])) = _
    rw [nums]
    rw [if_pos (by simp), num_four h.1, ih h.2]
theorem fours_len (l : List Int) : (l.flatMap four).length = 4 * l.length := by
  induction l with
  | nil => rfl
  | cons x l ih => rw [List.flatMap_cons, List.length_append, ih]; simp [four]; omega
theorem message_eq (a b c d k : Int) (r : List Int) : message (a :: b :: c :: d :: k :: r) = if 2 ≤ r.length ∧ (r.length + 5 - 7) % 4 = 0 then ((num a b c d, (k, nums r)), true) else ((0, (0, [])), false) := rfl
theorem valid_iff {a : Msg} : valid a = true ↔ (0 ≤ a.1 ∧ a.1 ≤ 2147483647 ∧ 0 ≤ a.2.1 ∧ a.2.1 < 256 ∧ a.2.2.length ≤ 13 ∧ a.2.2.any odd = false) := by
  unfold valid
  simp only [Bool.and_eq_true, decide_eq_true_eq, Bool.not_eq_true']
  constructor
  · rintro ⟨⟨⟨⟨⟨h1, h2⟩, h3⟩, h4⟩, h5⟩, h6⟩; exact ⟨h1, h2, h3, h4, h5, h6⟩
  · rintro ⟨h1, h2, h3, h4, h5, h6⟩; exact ⟨⟨⟨⟨⟨h1, h2⟩, h3⟩, h4⟩, h5⟩, h6⟩
theorem message_content {a : Msg} (h : valid a = true) : message (content a) = (a, true) := by
  obtain ⟨s, k, l⟩ := a
  obtain ⟨h1, h2, h3, h4, h5, h6⟩ := valid_iff.1 h
  simp only at h1 h2 h3 h4 h5 h6
  have e : content (s, (k, l)) = s % 256 :: s / 256 % 256 :: s / 65536 % 256 :: s / 16777216 % 256 :: k % 256 :: (l.flatMap four ++ [(crc (head0 (s, (k, l))) : Int) / 256 % 256, (crc (head0 (s, (k, l))) : Int) % 256]) := by
    simp [content, head0, four]
  have hl : (l.flatMap four ++ [(crc (head0 (s, (k, l))) : Int) / 256 % 256, (crc (head0 (s, (k, l))) : Int) % 256]).length = 4 * l.length + 2 := by
    rw [List.length_append, fours_len]; rfl
  rw [e, message_eq, if_pos (by rw [hl]; omega), nums_fours _ _ l h6, num_four (by unfold odd; simp; omega)]
  have : k % 256 = k := by omega
  rw [this]
theorem encode_valid {a : Msg} (h : valid a = true) : encode a = [126] ++ body a ++ [126] := by
  unfold encode
  rw [if_pos h]
  rfl
theorem piece_body {a : Msg} (h : valid a = true) : piece (body a) = some a := by
  unfold piece
  have e : plain (body a) = content a := plain_escs _
  simp only [e, message_content h]
  rw [if_pos ⟨trivial, encode_valid h⟩]
theorem piece_some {p : List Int} {a : Msg} (h : piece p = some a) : valid a = true ∧ p = body a := by
  unfold piece at h
  simp only at h
  split at h
  · rename_i hc
    cases h
    obtain ⟨_, h2⟩ := hc
    cases hv : valid (message (plain p)).1 with
    | false =>
      unfold encode at h2
      rw [hv] at h2
      simp at h2
    | true =>
      refine ⟨rfl, ?_⟩
      rw [encode_valid hv] at h2
      have h3 := List.append_cancel_right h2
      exact (List.append_cancel_left h3).symm
  · cases h
theorem body_free (a : Msg) : (126 : Int) ∉ body a := escs_free _

/-! ### Streams -/
theorem inner_append {P Q : List (List Int)} (hp : P ≠ []) (hq : Q ≠ []) : inner (P ++ Q) = P.drop 1 ++ Q.dropLast := by
  unfold inner
  cases P with
  | nil => exact absurd rfl hp
  | cons p P =>
    show (P ++ Q).dropLast = _
    rw [List.dropLast_append_of_ne_nil hq]
    rfl
theorem msgs_frame {a : Msg} (h : valid a = true) : msgs (encode a) = [a] := by
  have e : encode a = [] ++ 126 :: (body a ++ 126 :: []) := by rw [encode_valid h]; simp
  unfold msgs
  rw [e, splitB_append, splitB_append, splitB_none (body_free a)]
  show ([body a].filterMap piece) = _
  rw [List.filterMap_cons, piece_body h]
  rfl
theorem mem_split {l : List Int} (h : (126 : Int) ∈ l) : ∃ u v, l = u ++ 126 :: v ∧ 126 ∉ v := by
  induction l with
  | nil => simp at h
  | cons x l ih =>
    by_cases h1 : 126 ∈ l
    · obtain ⟨u, v, rfl, h2⟩ := ih h1
      exact ⟨x :: u, v, rfl, h2⟩
    · rcases List.mem_cons.1 h with rfl | h
      · exact ⟨[], l, rfl, h1⟩
      · exact absurd h h1
theorem rest_free {l : List Int} (h : (126 : Int) ∉ l) : rest l = [] := by
  induction l with
  | nil => rfl
  | cons x l ih =>
    simp only [List.mem_cons, not_or] at h
    unfold rest
    rw [if_neg h.2, if_neg (fun e => h.1 e.symm)]
theorem rest_eq : ∀ (u v : List Int), 126 ∉ v → rest (u ++ 126 :: v) = 126 :: v := by
  intro u
  induction u with
  | nil => intro v h; show rest (126 :: v) = _; unfold rest; rw [if_neg h, if_pos rfl]
  | cons x u ih =>
    intro v h
    show rest (x :: (u ++ 126 :: v)) = _
    unfold rest
    rw [if_pos (by simp), ih v h]
theorem drop1_splitB {x y : List Int} (h : (126 : Int) ∉ x) : (splitB 126 (x ++ y)).drop 1 = (splitB 126 y).drop 1 := by
  induction x with
  | nil => rfl
  | cons a x ih =>
    simp only [List.mem_cons, not_or] at h
    have ih := ih h.2
    show (splitB 126 (a :: (x ++ y))).drop 1 = _
    rw [splitB, if_neg (fun e => h.1 e.symm)]
    cases hs : splitB 126 (x ++ y) with
    | nil => exact absurd hs (splitB_ne _)
    | cons p r => rw [hs] at ih; exact ih
theorem msgs_free {x y : List Int} (h : (126 : Int) ∉ x) : msgs (x ++ y) = msgs y := by
  unfold msgs inner
  rw [drop1_splitB h]
theorem msgs_mark (u w : List Int) : msgs (u ++ 126 :: w) = ((splitB 126 u).drop 1 ++ (splitB 126 w).dropLast).filterMap piece := by
  unfold msgs
  rw [splitB_append, inner_append (splitB_ne _) (splitB_ne _)]
/-- Decoding in two: what was left stands ahead of what comes. -/
theorem msgs_two (x y : List Int) : msgs (x ++ y) = msgs x ++ msgs (rest x ++ y) ∧ rest (x ++ y) = rest (rest x ++ y) := by
  by_cases h : (126 : Int) ∈ x
  · obtain ⟨u, v, rfl, hv⟩ := mem_split h
    rw [rest_eq u v hv]
    have e1 : u ++ 126 :: v ++ y = u ++ 126 :: (v ++ y) := by simp
    have e2 : 126 :: v ++ y = [] ++ 126 :: (v ++ y) := by simp
    rw [e1, e2, msgs_mark, msgs_mark, msgs_mark, splitB_none hv]
    refine ⟨?_, ?_⟩
    · simp [splitB]
    · by_cases hy : (126 : Int) ∈ y
      · obtain ⟨u', v', rfl, hv'⟩ := mem_split hy
        have e3 : u ++ 126 :: (v ++ (u' ++ 126 :: v')) = (u ++ 126 :: (v ++ u')) ++ 126 :: v' := by simp
        have e4 : [] ++ 126 :: (v ++ (u' ++ 126 :: v')) = (126 :: (v ++ u')) ++ 126 :: v' := by simp
        rw [e3, e4, rest_eq _ _ hv', rest_eq _ _ hv']
      · have hvy : (126 : Int) ∉ v ++ y := by simp [hv, hy]
        rw [rest_eq _ _ hvy, rest_eq _ _ hvy]
  · rw [rest_free h, msgs_free h]
    refine ⟨?_, ?_⟩
    · have : msgs x = [] := by unfold msgs; rw [splitB_none h]; rfl
      rw [this]; rfl
    · by_cases hy : (126 : Int) ∈ y
      · obtain ⟨u', v', rfl, hv'⟩ := mem_split hy
        have e3 : x ++ (u' ++ 126 :: v') = (x ++ u') ++ 126 :: v' := by simp
        rw [e3, rest_eq _ _ hv', List.nil_append, rest_eq _ _ hv']
      · have hxy : (126 : Int) ∉ x ++ y := by simp [h, hy]
        rw [rest_free hxy, List.nil_append, rest_free hy]
end Go.Fb
