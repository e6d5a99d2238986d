import Derived.Test.YtgjaamjbagoieaaBHuJ1
set_option linter.unusedVariables false
set_option linter.unusedSimpArgs false
set_option linter.unnecessarySimpa false
/-
  The crossing number along a segment that meets nothing.
-/
namespace Go.Hu

theorem cr_n {a b x : Pt} (h : a.2 ≤ x.2 ↔ b.2 ≤ x.2) : cr a b x = 0 := by unfold cr; rw [if_neg (by omega), if_neg (by omega)]
theorem cr_u {a b x : Pt} (h : a.2 ≤ x.2) (k : x.2 < b.2) : cr a b x = if 0 < side a b x then 1 else 0 := by unfold cr; split <;> split <;> (try split) <;> omega
theorem cr_d {a b x : Pt} (h : b.2 ≤ x.2) (k : x.2 < a.2) : cr a b x = if side a b x < 0 then -1 else 0 := by unfold cr; split <;> split <;> (try split) <;> omega
theorem Rr_n {a x y : Pt} (h : a.2 ≤ x.2 ↔ a.2 ≤ y.2) : Rr x y a = 0 := by unfold Rr; rw [if_neg (by omega), if_neg (by omega)]
theorem Rr_d {a x y : Pt} (h : y.2 < a.2) (k : a.2 ≤ x.2) : Rr x y a = if 0 < side x y a then 1 else 0 := by unfold Rr; split <;> split <;> (try split) <;> omega
theorem Rr_u {a x y : Pt} (h : x.2 < a.2) (k : a.2 ≤ y.2) : Rr x y a = if side x y a < 0 then -1 else 0 := by unfold Rr; split <;> split <;> (try split) <;> omega
theorem k_edge {a b x y : Pt} (h : ¬ Meet a b x y) : cr a b y - cr a b x = Rr x y b - Rr x y a := by
  have m1 : ¬ Meet b a x y := fun k => h (meet_swap.2 k)
  have m2 : ¬ Meet a b y x := fun k => h (meet_swap'.2 k)
  have m3 : ¬ Meet b a y x := fun k => m1 (meet_swap'.2 k)
  have m4 : ¬ Meet x y a b := fun k => h (meet_comm.2 k)
  have m5 : ¬ Meet y x a b := fun k => m4 (meet_swap.2 k)
  have m6 : ¬ Meet x y b a := fun k => m4 (meet_swap'.2 k)
  have m7 : ¬ Meet y x b a := fun k => m5 (meet_swap'.2 k)
  have o1 : ¬ On a b x := fun k => h (.inl k)
  have o2 : ¬ On a b y := fun k => h (.inr (.inl k))
  have o3 : ¬ On x y a := fun k => h (.inr (.inr (.inl k)))
  have o4 : ¬ On x y b := fun k => h (.inr (.inr (.inr (.inl k))))
  have c : ¬ Crs a b x y := fun k => h (.inr (.inr (.inr (.inr k))))
  have sP := side_swap b a x
  have sQ := side_swap b a y
  have sU := side_swap y x a
  have sV := side_swap y x b
  -- one straddle, one in the strip
  have key1 : ∀ {a b x y : Pt}, ¬ On a b x → ¬ On x y a → ¬ Crs a b x y → y.2 ≤ a.2 → a.2 ≤ x.2 → x.2 ≤ b.2 → a.2 < b.2 → y.2 < x.2 → (0 < side a b x ∧ 0 < side x y a ∨ side a b x < 0 ∧ side x y a < 0) := by
    intro a b x y o1 o3 c h1 h2 h3 h4 h5
    have z1 : side a b x ≠ 0 := fun e => o1 (on_height e h2 h3 h4)
    have z2 : side x y a ≠ 0 := fun e => o3 (on_comm.1 (on_height (by rw [side_swap]; omega) h1 h2 h5))
    obtain ⟨k1, k2⟩ := k_one h1 h2 h3 h4 h5
    rcases Int.lt_or_le 0 (side a b x) with p | p
    · rcases Int.lt_or_le (side x y a) 0 with u | u
      · exact absurd (⟨.inl ⟨p, (k1 p u).1⟩, .inr ⟨u, (k1 p u).2⟩⟩ : Crs a b x y) c
      · exact .inl ⟨p, by omega⟩
    · rcases Int.lt_or_le 0 (side x y a) with u | u
      · exact absurd (⟨.inr ⟨by omega, (k2 (by omega) u).1⟩, .inl ⟨u, (k2 (by omega) u).2⟩⟩ : Crs a b x y) c
      · exact .inr ⟨by omega, by omega⟩
  have key2 : ∀ {a b x y : Pt}, ¬ Meet a b x y → ¬ Meet b a x y → ¬ On x y a → ¬ On x y b → y.2 ≤ a.2 → a.2 ≤ x.2 → y.2 ≤ b.2 → b.2 ≤ x.2 → y.2 < x.2 → (0 < side x y a ∧ 0 < side x y b ∨ side x y a < 0 ∧ side x y b < 0) := by
    intro a b x y m m' o3 o4 h1 h2 h3 h4 h5
    have z1 : side x y a ≠ 0 := fun e => o3 (on_comm.1 (on_height (by rw [side_swap]; omega) h1 h2 h5))
    have z2 : side x y b ≠ 0 := fun e => o4 (on_comm.1 (on_height (by rw [side_swap]; omega) h3 h4 h5))
    rcases Int.lt_or_le 0 (side x y a) with p | p
    · rcases Int.lt_or_le (side x y b) 0 with u | u
      · exact absurd (k_two h3 h4 h1 h2 h5 u p) m'
      · exact .inl ⟨p, by omega⟩
    · rcases Int.lt_or_le 0 (side x y b) with u | u
      · exact absurd (k_two h1 h2 h3 h4 h5 (by omega) u) m
      · exact .inr ⟨by omega, by omega⟩
  have c1 : ¬ Crs b a x y := fun k => c (crs_swap.2 k)
  have c2 : ¬ Crs a b y x := fun k => c (crs_swap'.2 k)
  have c3 : ¬ Crs b a y x := fun k => c1 (crs_swap'.2 k)
  have c4 : ¬ Crs x y a b := fun k => c (crs_comm.2 k)
  have c5 : ¬ Crs y x a b := fun k => c4 (crs_swap.2 k)
  have c6 : ¬ Crs x y b a := fun k => c4 (crs_swap'.2 k)
  have c7 : ¬ Crs y x b a := fun k => c5 (crs_swap'.2 k)
  have o1' : ¬ On b a x := fun k => o1 (on_comm.1 k)
  have o2' : ¬ On b a y := fun k => o2 (on_comm.1 k)
  have o3' : ¬ On y x a := fun k => o3 (on_comm.1 k)
  have o4' : ¬ On y x b := fun k => o4 (on_comm.1 k)
  by_cases ax : a.2 ≤ x.2 <;> by_cases bx : b.2 ≤ x.2 <;> by_cases ay : a.2 ≤ y.2 <;> by_cases b_y : b.2 ≤ y.2
  · rw [cr_n (a := a) (b := b) (x := y) (by omega), cr_n (a := a) (b := b) (x := x) (by omega), Rr_n (a := b) (x := x) (y := y) (by omega), Rr_n (a := a) (x := x) (y := y) (by omega)]
  · have k := key1 (a := y) (b := x) (x := b) (y := a) o4' o2' c7 (by omega) (by omega) (by omega) (by omega) (by omega)
    rw [cr_u (a := a) (b := b) (x := y) (by omega) (by omega), cr_n (a := a) (b := b) (x := x) (by omega), Rr_d (a := b) (x := x) (y := y) (by omega) (by omega), Rr_n (a := a) (x := x) (y := y) (by omega)]
    split <;> (try split) <;> omega
  · have k := key1 (a := y) (b := x) (x := a) (y := b) o3' o2 c5 (by omega) (by omega) (by omega) (by omega) (by omega)
    rw [cr_d (a := a) (b := b) (x := y) (by omega) (by omega), cr_n (a := a) (b := b) (x := x) (by omega), Rr_n (a := b) (x := x) (y := y) (by omega), Rr_d (a := a) (x := x) (y := y) (by omega) (by omega)]
    split <;> (try split) <;> omega
  · have k := key2 (a := a) (b := b) (x := x) (y := y) h m1 o3 o4 (by omega) (by omega) (by omega) (by omega) (by omega)
    rw [cr_n (a := a) (b := b) (x := y) (by omega), cr_n (a := a) (b := b) (x := x) (by omega), Rr_d (a := b) (x := x) (y := y) (by omega) (by omega), Rr_d (a := a) (x := x) (y := y) (by omega) (by omega)]
    split <;> (try split) <;> omega
  · have k := key1 (a := x) (b := y) (x := b) (y := a) o4 o1' c6 (by omega) (by omega) (by omega) (by omega) (by omega)
    rw [cr_n (a := a) (b := b) (x := y) (by omega), cr_u (a := a) (b := b) (x := x) (by omega) (by omega), Rr_u (a := b) (x := x) (y := y) (by omega) (by omega), Rr_n (a := a) (x := x) (y := y) (by omega)]
    split <;> (try split) <;> omega
  · have k := key2 (a := x) (b := y) (x := b) (y := a) m6 m7 o1' o2' (by omega) (by omega) (by omega) (by omega) (by omega)
    rw [cr_u (a := a) (b := b) (x := y) (by omega) (by omega), cr_u (a := a) (b := b) (x := x) (by omega) (by omega), Rr_n (a := b) (x := x) (y := y) (by omega), Rr_n (a := a) (x := x) (y := y) (by omega)]
    split <;> (try split) <;> omega
  · omega
  · have k := key1 (a := a) (b := b) (x := x) (y := y) o1 o3 c (by omega) (by omega) (by omega) (by omega) (by omega)
    rw [cr_n (a := a) (b := b) (x := y) (by omega), cr_u (a := a) (b := b) (x := x) (by omega) (by omega), Rr_n (a := b) (x := x) (y := y) (by omega), Rr_d (a := a) (x := x) (y := y) (by omega) (by omega)]
    split <;> (try split) <;> omega
  · have k := key1 (a := x) (b := y) (x := a) (y := b) o3 o1 c4 (by omega) (by omega) (by omega) (by omega) (by omega)
    rw [cr_n (a := a) (b := b) (x := y) (by omega), cr_d (a := a) (b := b) (x := x) (by omega) (by omega), Rr_n (a := b) (x := x) (y := y) (by omega), Rr_u (a := a) (x := x) (y := y) (by omega) (by omega)]
    split <;> (try split) <;> omega
  · omega
  · have k := key2 (a := x) (b := y) (x := a) (y := b) m4 m5 o1 o2 (by omega) (by omega) (by omega) (by omega) (by omega)
    rw [cr_d (a := a) (b := b) (x := y) (by omega) (by omega), cr_d (a := a) (b := b) (x := x) (by omega) (by omega), Rr_n (a := b) (x := x) (y := y) (by omega), Rr_n (a := a) (x := x) (y := y) (by omega)]
    split <;> (try split) <;> omega
  · have k := key1 (a := b) (b := a) (x := x) (y := y) o1' o4 c1 (by omega) (by omega) (by omega) (by omega) (by omega)
    rw [cr_n (a := a) (b := b) (x := y) (by omega), cr_d (a := a) (b := b) (x := x) (by omega) (by omega), Rr_d (a := b) (x := x) (y := y) (by omega) (by omega), Rr_n (a := a) (x := x) (y := y) (by omega)]
    split <;> (try split) <;> omega
  · have k := key2 (a := a) (b := b) (x := y) (y := x) m2 m3 o3' o4' (by omega) (by omega) (by omega) (by omega) (by omega)
    rw [cr_n (a := a) (b := b) (x := y) (by omega), cr_n (a := a) (b := b) (x := x) (by omega), Rr_u (a := b) (x := x) (y := y) (by omega) (by omega), Rr_u (a := a) (x := x) (y := y) (by omega) (by omega)]
    split <;> (try split) <;> omega
  · have k := key1 (a := a) (b := b) (x := y) (y := x) o2 o3' c2 (by omega) (by omega) (by omega) (by omega) (by omega)
    rw [cr_u (a := a) (b := b) (x := y) (by omega) (by omega), cr_n (a := a) (b := b) (x := x) (by omega), Rr_n (a := b) (x := x) (y := y) (by omega), Rr_u (a := a) (x := x) (y := y) (by omega) (by omega)]
    split <;> (try split) <;> omega
  · have k := key1 (a := b) (b := a) (x := y) (y := x) o2' o4' c3 (by omega) (by omega) (by omega) (by omega) (by omega)
    rw [cr_d (a := a) (b := b) (x := y) (by omega) (by omega), cr_n (a := a) (b := b) (x := x) (by omega), Rr_u (a := b) (x := x) (y := y) (by omega) (by omega), Rr_n (a := a) (x := x) (y := y) (by omega)]
    split <;> (try split) <;> omega
  · rw [cr_n (a := a) (b := b) (x := y) (by omega), cr_n (a := a) (b := b) (x := x) (by omega), Rr_n (a := b) (x := x) (y := y) (by omega), Rr_n (a := a) (x := x) (y := y) (by omega)]
end Go.Hu
