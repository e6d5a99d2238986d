import Derived.Shelf.LaysM
import Derived.Ground.SlbSplitProg
import Derived.Shelf.Bytes.SlSplit
import Derived.Shelf.Bytes.SlSplitNil
import Derived.Ground.SlbCloneProg
import Derived.Shelf.Bytes.SlClone
import Derived.Shelf.Bytes.SlEqualAll
import Derived.Test.YtigkjkmikicnnaaDoorProg
import Derived.Shelf.Spec.SlicesGrow
import Derived.Shelf.SlGeneric
set_option linter.unusedVariables false
set_option linter.unusedSimpArgs false
set_option linter.unnecessarySimpa false
/-
  FRAMING: the contracts of the library at this program, laid by the kit's own tool.
-/
namespace Go.Proofs
open Go.Shelf
def Tryd.laysSlP7_ren : Go.Shelf.Ren := ⟨fun | 7 => 40 | 11 => 46 | 14 => 47 | 15 => 48 | 16 => 49 | 17 => 50 | 19 => 51 | 20 => 52 | 21 => 53 | 22 => 29 | 23 => 54 | 24 => 55 | 25 => 56 | 26 => 57 | 29 => 58 | 30 => 59 | 31 => 60 | n => n, fun | 22 => 25 | 23 => 36 | 3 => 3 | 4 => 4 | 0 => 0 | 34 => 68 | 21 => 21 | 5 => 5 | 45 => 54 | 9 => 9 | 58 => 73 | 38 => 72 | 28 => 75 | 62 => 78 | 61 => 77 | n => n, fun | 2 => 0 | 3 => 1 | 4 => 2 | n => n⟩
theorem Tryd.laysSlP7 : Go.Proofs.SlLaysP.n7 Tryd.prog Tryd.laysSlP7_ren := {
  mixed := by kernel_rfl
  f7 := Tryd.func40.trans (congrArg some (by kernel_rfl))
  f11 := Tryd.func46.trans (congrArg some (by kernel_rfl))
  f15 := Tryd.func48.trans (congrArg some (by kernel_rfl))
  f16 := Tryd.func49.trans (congrArg some (by kernel_rfl))
  f20 := Tryd.func52.trans (congrArg some (by kernel_rfl))
  f21 := Tryd.func53.trans (congrArg some (by kernel_rfl))
  f22 := Tryd.func29.trans (congrArg some (by kernel_rfl))
  f23 := Tryd.func54.trans (congrArg some (by kernel_rfl))
  f24 := Tryd.func55.trans (congrArg some (by kernel_rfl))
  f25 := Tryd.func56.trans (congrArg some (by kernel_rfl))
  f30 := Tryd.func59.trans (congrArg some (by kernel_rfl))
  f31 := Tryd.func60.trans (congrArg some (by kernel_rfl))
  t0 := Tryd.underlying0
  a0 := Tryd.isAgg0
  z0 := Tryd.sizeOf0
  v0 := Tryd.zeroValue0
  t3 := Tryd.underlying3
  a3 := Tryd.isAgg3
  z3 := Tryd.sizeOf3
  v3 := Tryd.zeroValue3
  t4 := Tryd.underlying4
  a4 := Tryd.isAgg4
  z4 := Tryd.sizeOf4
  v4 := Tryd.zeroValue4
  t5 := Tryd.underlying5
  a5 := Tryd.isAgg5
  z5 := Tryd.sizeOf5
  v5 := Tryd.zeroValue5
  t9 := Tryd.underlying9
  a9 := Tryd.isAgg9
  z9 := Tryd.sizeOf9
  v9 := Tryd.zeroValue9
  t22 := Tryd.underlying25
  a22 := Tryd.isAgg25
  z22 := Tryd.sizeOf25
  v22 := Tryd.zeroValue25
  t23 := Tryd.underlying36
  a23 := Tryd.isAgg36
  z23 := Tryd.sizeOf36
  v23 := Tryd.zeroValue36
  t38 := Tryd.underlying72
  a38 := Tryd.isAgg72
  z38 := Tryd.sizeOf72
  v38 := Tryd.zeroValue72
  t45 := Tryd.underlying54
  a45 := Tryd.isAgg54
  z45 := Tryd.sizeOf54
  v45 := Tryd.zeroValue54
  t58 := Tryd.underlying73
  a58 := Tryd.isAgg73
  z58 := Tryd.sizeOf73
  v58 := Tryd.zeroValue73
  g2 := by kernel_rfl
  i22 := by kernel_rfl }
def Tryd.laysSlK4_ren : Go.Shelf.Ren := ⟨fun | 4 => 32 | n => n, fun | 22 => 25 | 4 => 4 | 5 => 5 | n => n, fun | n => n⟩
theorem Tryd.laysSlK4 : Go.Proofs.SlLaysK.n4 Tryd.prog Tryd.laysSlK4_ren := {
  mixed := by kernel_rfl
  f4 := Tryd.func32.trans (congrArg some (by kernel_rfl))
  t4 := Tryd.underlying4
  a4 := Tryd.isAgg4
  z4 := Tryd.sizeOf4
  v4 := Tryd.zeroValue4
  t22 := Tryd.underlying25
  a22 := Tryd.isAgg25
  z22 := Tryd.sizeOf25
  v22 := Tryd.zeroValue25
  t5 := Tryd.underlying5
  i5 := by kernel_rfl }
def Tryd.laysnb115_ren : Go.Shelf.Ren := ⟨fun | 115 => 29 | n => n, fun | 37 => 25 | 4 => 4 | 9 => 9 | 5 => 5 | n => n, fun | n => n⟩
theorem Tryd.laysnb115 : Go.Proofs.Lays.nb115 Tryd.prog Tryd.laysnb115_ren := {
  mixed := by kernel_rfl
  f115 := Tryd.func29.trans (congrArg some (by kernel_rfl))
  t4 := Tryd.underlying4
  a4 := Tryd.isAgg4
  z4 := Tryd.sizeOf4
  v4 := Tryd.zeroValue4
  t9 := Tryd.underlying9
  a9 := Tryd.isAgg9
  z9 := Tryd.sizeOf9
  v9 := Tryd.zeroValue9
  t37 := Tryd.underlying25
  a37 := Tryd.isAgg25
  z37 := Tryd.sizeOf25
  v37 := Tryd.zeroValue25
  t5 := Tryd.underlying5
  a5 := Tryd.isAgg5
  z5 := Tryd.sizeOf5
  v5 := Tryd.zeroValue5 }
def Tryd.grow_ren : Go.Shelf.Ren := ⟨fun | 4 => 42 | n => n, fun | 22 => 25 | 25 => 5 | 3 => 3 | 4 => 4 | 9 => 9 | 20 => 20 | 0 => 0 | n => n, fun | n => n⟩
theorem Tryd.grow : Go.Proofs.Lays8.n4 Tryd.prog Tryd.grow_ren := {
  mixed := by kernel_rfl
  f4 := ⟨Tryd.f42.name, by decide, Tryd.func42.trans (congrArg some (by kernel_rfl))⟩
  t0 := Tryd.underlying0
  a0 := Tryd.isAgg0
  z0 := Tryd.sizeOf0
  v0 := Tryd.zeroValue0
  t3 := Tryd.underlying3
  a3 := Tryd.isAgg3
  z3 := Tryd.sizeOf3
  v3 := Tryd.zeroValue3
  t4 := Tryd.underlying4
  a4 := Tryd.isAgg4
  z4 := Tryd.sizeOf4
  v4 := Tryd.zeroValue4
  t9 := Tryd.underlying9
  a9 := Tryd.isAgg9
  z9 := Tryd.sizeOf9
  v9 := Tryd.zeroValue9
  t20 := Tryd.underlying20
  a20 := Tryd.isAgg20
  z20 := Tryd.sizeOf20
  v20 := Tryd.zeroValue20
  t22 := Tryd.underlying25
  a22 := Tryd.isAgg25
  z22 := Tryd.sizeOf25
  v22 := Tryd.zeroValue25 }
open Go.RowKit Go.Lib in
theorem Tryd.bytes_Split (a1 a2 : Addr) (n c1 k c2 : Nat) (xs ys : List Int) (m : Int) (w : World) (hx : xs.length = n) (hy : ys.length = k) (hr1 : ∀ x ∈ xs, 0 ≤ x ∧ x < 256) (hr2 : ∀ y ∈ ys, 0 ≤ y ∧ y < 256) (hc1 : ∀ i, i < n → w.cell? (a1.add i) = some (.int .u8 (xs.getD i 0))) (hc2 : ∀ i, i < k → w.cell? (a2.add i) = some (.int .u8 (ys.getD i 0))) (hcap : n ≤ c1) (hs : n < 4294967281) (hk : k ≤ 9223372036854775807) (hc63 : c1 ≤ 9223372036854775807) (h1 : 1 ≤ k) (hm : w.cell? ⟨0, 0, none⟩ = some (.int .i64 m)) :
    Calls Tryd.prog 40 #[.slice (some a1) n c1, .slice (some a2) k c2] w fun e w' =>
      e = .returned (.slice (some ⟨w.heap.size, 0, none⟩) (Lib.count (Lib.bytesOf xs) (Lib.bytesOf ys) + 1) (Lib.count (Lib.bytesOf xs) (Lib.bytesOf ys) + 1)) ∧ ∃ q, w' = (w.alloc (.cells (Lib.splitV (Lib.bytesOf ys) 0 (Lib.count (Lib.bytesOf xs) (Lib.bytesOf ys)) a1 c1 (Lib.bytesOf xs)).toArray 25)).drewN q := Any.bytes_Split Tryd.laysSlP7 a1 a2 n c1 k c2 xs ys m w hx hy hr1 hr2 hc1 hc2 hcap hs hk hc63 h1 hm
open Go.RowKit Go.Lib in
theorem Tryd.bytes_Split_nil (p2 : Option Addr) (k c2 : Nat) (w : World) (h1 : 1 ≤ k) (hk : k ≤ 9223372036854775807) (h1c : k = 1 → ∃ b2 o2 cv, p2 = some ⟨b2, o2, none⟩ ∧ w.cell? ⟨b2, o2, none⟩ = some (.int .u8 cv)) :
    Calls Tryd.prog 40 #[.slice none 0 0, .slice p2 k c2] w fun e w' => e = .returned (.slice (some ⟨w.heap.size, 0, none⟩) 1 1) ∧ w' = w.alloc (.cells #[.slice none 0 0] 25) := Any.bytes_Split_nil Tryd.laysSlP7 p2 k c2 w h1 hk h1c
open Go.RowKit Go.Lib in
theorem Tryd.bytes_Clone_at (a : Addr) (n c : Nat) (xs : List Int) (w : World) (hx : xs.length = n) (hbig : n ≤ 140737488355328) (hc : ∀ i, i < n → w.cell? (a.add i) = some (.int .u8 (xs.getD i 0))) :
    Calls Tryd.prog 32 #[.slice (some a) n c] w fun e w' => ∃ v', e = .returned v' ∧ w'.ownsRow w.heap.size 5 1 v' n (xs.map (Value.int .u8)) ∧ v' ≠ .slice none 0 0 ∧ Below w.heap.size w w' := Any.bytes_Clone_at Tryd.laysSlK4 a n c xs w hx hbig hc
open Go.RowKit Go.Lib in
theorem Tryd.bytes_Clone_nil (n c : Nat) (w : World) :
    Calls Tryd.prog 32 #[.slice none n c] w fun e w' => e = .returned (.slice none 0 0) ∧ w' = w := Any.bytes_Clone_nil Tryd.laysSlK4 n c w
theorem Tryd.bytes_Equal_all (p1 p2 : Option Addr) (n c m d : Nat) (xs ys : List Int) (w : World) (hx : xs.length = n) (hy : ys.length = m) (h1 : Lib.BytesIn w p1 n xs) (h2 : Lib.BytesIn w p2 m ys) :
    Calls Tryd.prog 29 #[.slice p1 n c, .slice p2 m d] w fun e w' => e = .returned (.bool (Lib.bytesOf xs == Lib.bytesOf ys)) ∧ w' = w := Any.bytes_Equal_all Tryd.laysnb115 p1 p2 n c m d xs ys w hx hy h1 h2
end Go.Proofs
