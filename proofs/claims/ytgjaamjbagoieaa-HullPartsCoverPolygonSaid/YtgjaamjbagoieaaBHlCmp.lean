import Derived.Test.YtgjaamjbagoieaaBHlShelf
import Derived.Test.YtgjaamjbagoieaaBSlSort
import Derived.StillTailTactics
set_option linter.unusedVariables false
set_option linter.unusedSimpArgs false
set_option linter.unnecessarySimpa false
namespace Go.Hl
open Go Go.Proofs Go.RowKit Go.Lib Go.Shelf Go.Sort Go.Am

/-- Two points' cells, lying in a world that has grown. -/
structure Held (x y : Int × Int) (W w : World) : Prop where
  a1 : w.cell? ⟨W.heap.size, 0, none⟩ = some (.int .i64 x.1)
  a2 : w.cell? ⟨W.heap.size, 1, none⟩ = some (.int .i64 x.2)
  b1 : w.cell? ⟨W.heap.size + 1, 0, none⟩ = some (.int .i64 y.1)
  b2 : w.cell? ⟨W.heap.size + 1, 1, none⟩ = some (.int .i64 y.2)
  from_ : ∃ q os', w = grow (W.drewN q) os'

theorem held (x y : Int × Int) (W : World) (o1 o2 : Obj) (h1 : o1 = .cells #[.int .i64 x.1, .int .i64 x.2] 35) (h2 : o2 = .cells #[.int .i64 y.1, .int .i64 y.2] 35) : Held x y W (((W.alloc o1).alloc o2).drew) := by
  subst h1 h2
  have e1 : ∀ i, (((W.alloc (.cells #[.int .i64 x.1, .int .i64 x.2] 35)).alloc (.cells #[.int .i64 y.1, .int .i64 y.2] 35)).drew).cell? ⟨W.heap.size, i, none⟩ = #[Value.int .i64 x.1, Value.int .i64 x.2][i]? := fun i => by
    rw [World.cell?_drew, World.cell?_alloc_lt _ _ _ (by rw [World.size_alloc]; exact Nat.lt_succ_self _), World.cell?_alloc_new]
  have e2 : ∀ i, (((W.alloc (.cells #[.int .i64 x.1, .int .i64 x.2] 35)).alloc (.cells #[.int .i64 y.1, .int .i64 y.2] 35)).drew).cell? ⟨W.heap.size + 1, i, none⟩ = #[Value.int .i64 y.1, Value.int .i64 y.2][i]? := fun i => by
    have : W.heap.size + 1 = (W.alloc (.cells #[.int .i64 x.1, .int .i64 x.2] 35)).heap.size := (World.size_alloc _ _).symm
    rw [World.cell?_drew, this, World.cell?_alloc_new]
  exact ⟨by rw [e1]; rfl, by rw [e1]; rfl, by rw [e2]; rfl, by rw [e2]; rfl, 1, _, by rw [alloc_eq_grow, alloc_eq_grow, grow_grow]; rfl⟩

set_option maxHeartbeats 1000000 in
theorem or30 (a b : Int) (B : Nat) (w : World) (h0 : w.cell? ⟨B, 0, none⟩ = some (.int .i64 a)) (h1 : w.cell? ⟨B, 1, none⟩ = some (.int .i64 b)) : Calls Try.prog 30 #[.slice (some ⟨B, 0, none⟩) 2 2] w fun e w' => e = .returned (.int .i64 (if a ≠ 0 then a else b)) ∧ w' = w := by
  by_cases ha : a = 0
  · subst ha
    by_cases hb : b = 0
    · subst hb
      go_enter Try.func30, Try.ntmps30
      go_wp2
      refine wp_loop_rounds 3 ?_
      rw [rounds_succ]
      go_wp2
      rw [rounds_succ]
      go_wp2
      rw [rounds_succ]
      go_wp2
      go_ret
      exact ⟨rfl, rfl⟩
    · go_enter Try.func30, Try.ntmps30
      go_wp2
      refine wp_loop_rounds 3 ?_
      rw [rounds_succ]
      go_wp2
      rw [rounds_succ]
      go_wp2
      all_goals go_ret
      all_goals exact ⟨rfl, rfl⟩
  · go_enter Try.func30, Try.ntmps30
    go_wp2
    refine wp_loop_rounds 3 ?_
    rw [rounds_succ]
    go_wp2
    all_goals go_ret
    all_goals exact ⟨rfl, rfl⟩

set_option maxHeartbeats 1000000 in
theorem closure29 (x y : Int × Int) (W : World) : Calls Try.prog 29 #[.agg #[.int .i64 x.1, .int .i64 x.2], .agg #[.int .i64 y.1, .int .i64 y.2]] W fun e w' => e = .returned (.int .i64 (if Lib.compareInt x.1 y.1 ≠ 0 then Lib.compareInt x.1 y.1 else Lib.compareInt x.2 y.2)) ∧ ∃ q os', w' = grow (W.drewN q) os' := by
  have hcon := fun a b W' => AnyG.cmp_Compare_int Try.laysC5 a b W'
  change ∀ a b W', Calls Try.prog 31 _ _ _ at hcon
  go_enter Try.func29, Try.ntmps29
  go_wp2_with (go_at_call 31; refine (hcon _ _ _).mono ?_; rintro e w' ⟨rfl, rfl⟩)
  have hh := held x y W _ _ rfl rfl
  refine wp_region_still_tail 10 (by kernel_rfl) (by kernel_rfl) ?_
  change wpStill _ _ (World.drew _) (fun a' => wpList _ _ _ _ a' (World.drew _)) _ _
  generalize World.drew (World.alloc (World.alloc _ _) _) = w2 at hh ⊢
  obtain ⟨a1, a2, b1, b2, hfrom⟩ := hh
  simp only [List.take_succ_cons, List.take_zero, List.drop_succ_cons, List.drop_zero]
  still_step
  still_step
  still_step
  still_step
  still_call (hcon _ _ _)
  still_step
  still_step
  still_step
  still_step
  still_call (hcon _ _ _)
  refine wpStill_nil ?_
  go_wp2_with (go_at_call 30; refine (or30 (Lib.compareInt x.1 y.1) (Lib.compareInt x.2 y.2) w2.heap.size _ (by rw [World.cell?_alloc_new]; rfl) (by rw [World.cell?_alloc_new]; rfl)).mono ?_; rintro e w' ⟨rfl, rfl⟩)
  all_goals go_ret
  all_goals
    obtain ⟨q, os', rfl⟩ := hfrom
    exact ⟨rfl, q, _, by rw [alloc_eq_grow, grow_grow]⟩
end Go.Hl
