/-
  The calls at the head of all laws of this seat; the walk of IdsNames. Helper text; the conditions are those typed.
-/
import Derived.Test.YtieahneoofdneaaDoorWalkC
namespace Go.Proofs.YtieahneoofdneaaDoor
set_option linter.unusedVariables false
set_option linter.unusedSimpArgs false
open Go.RowKit Go.Maps Go.Shelf Go.Sort

theorem sorted_awake : sorted [3, 1, 3, -2] = [-2, 1, 3] := by
  have h : ([3, 1, 3, -2] : List Int).mergeSort (fun x y => decide (x ≤ y)) = [-2, 1, 3, 3] := by
    simp [List.mergeSort, List.MergeSort.Internal.splitInTwo, List.merge]
  unfold sorted
  rw [h]
  decide +kernel

theorem uvarint_300 : Lib.uvarint 300 = [172, 2] := by
  rw [Lib.uvarint_big (by omega), Lib.uvarint_small (by omega)]
  rfl

theorem take_awake : takeB 0 0 [172, 2, 7] = (300, 2, 0) := by decide +kernel

theorem ints_new (w : World) (zs : List Int) (t : TypeId) : IntsAt (w.alloc (.cells (zs.map (Value.int .i64)).toArray t)) (some ⟨w.heap.size, 0, none⟩) zs := by
  refine .inr ⟨_, _, rfl, fun i hi => ?_⟩
  have := cells_new w (zs.map (Value.int .i64)) t i (.int .i64 (zs.getD i 0)) (by simp [List.getD, hi])
  rw [← this]
  unfold Addr.add
  split
  · rename_i h; subst h; rfl
  · rfl

theorem bytes_new (w : World) (l : List UInt8) (t : TypeId) : BytesAt (w.alloc (.cells (Lib.byteCells l).toArray t)) (some ⟨w.heap.size, 0, none⟩) l := by
  refine .inr ⟨_, _, rfl, fun i hi => ?_⟩
  have := cells_new w (Lib.byteCells l) t i (.int .u8 (l.getD i 0).toNat) (by simp [Lib.byteCells, List.getD, hi])
  rw [← this]
  unfold Addr.add
  split
  · rename_i h; subst h; rfl
  · rfl

theorem below_alloc (w : World) (o : Obj) : Below w.heap.size w (w.alloc o) := (Below.refl _ w).alloc (Nat.le_refl _) o
theorem Below.to {B B' : Nat} {w w' : World} (h : Below B w w') (hb : B' ≤ B) : Below B' w w' := ⟨h.os, h.tape, h.output, h.size, fun k hk => h.block k (by omega)⟩

theorem Below.dr {B : Nat} {w w' : World} (h : Below B w w') (n : Nat) : Below B w (w'.drewN n) := ⟨h.os, h.tape, h.output, h.size, h.block⟩

set_option maxHeartbeats 1000000 in
set_option maxRecDepth 100000 in
theorem awake_any (w : World) : Calls Tryd.prog 4 #[] w fun e w' => e = .returned (.bool true) ∧ Below w.heap.size w w' := by
  go_enter Tryd.func4, Tryd.ntmps4
  go_wp2_with fail
  refine (sort_in (zs := [3, 1, 3, -2]) (ints_new w _ 3) 4 (by decide)).mono ?_
  rintro e w1 ⟨v, rfl, h1⟩
  rw [sorted_awake] at h1
  obtain ⟨a1, c1, rfl, r1⟩ := h1.slice
  have b1 : Below w.heap.size w w1 := (below_alloc w _).trans (Below.to h1.2 (by simp))
  have R1 := Lib.hid r1
  have B1 := Lib.hid b1
  clear h1 r1 b1
  go_wp2_with fail
  refine (put_in (w := w1) (a := none) (l := []) (.inl rfl) 0 300 (by omega) (by decide)).mono ?_
  rintro e w2 ⟨v2, rfl, h2⟩
  rw [List.nil_append, uvarint_300] at h2
  obtain ⟨a2, c2, rfl, r2⟩ := h2.slice
  have R1' := Lib.hid (R1.out.below h2.2)
  have b2 : Below w.heap.size w w2 := B1.out.trans (Below.to h2.2 B1.out.size)
  have R2 := Lib.hid r2
  have B2 := Lib.hid b2
  clear h2 r2 b2 R1 B1
  go_wp2_with fail
  refine (take_in (l := [172, 2, 7]) (bytes_new w2 _ 5) 3 (by decide)).mono ?_
  rintro e w3 ⟨rfl, rfl⟩
  rw [take_awake]
  have R1 := Lib.hid (R1'.out.below (below_alloc w2 (.cells (Lib.byteCells [172, 2, 7]).toArray 5)))
  have R3 := Lib.hid (R2.out.below (below_alloc w2 (.cells (Lib.byteCells [172, 2, 7]).toArray 5)))
  have B3 : Hid (Below w.heap.size w (w2.alloc (.cells (Lib.byteCells [172, 2, 7]).toArray 5))) := B2.out.trans (Below.to (below_alloc w2 _) B2.out.size)
  clear R1' R2 B2
  generalize w2.alloc (.cells (Lib.byteCells [172, 2, 7]).toArray 5) = w4 at R1 R3 B3 ⊢
  go_wp2_with fail
  refine (same_in (xs := [-2, 1, 3]) (ys := [-2, 1, 3]) (R1.out.below (below_alloc w4 _)) (ints_new w4 [-2, 1, 3] 3) c1 3 (by decide) (by decide)).mono ?_
  rintro e w5 ⟨rfl, n, rfl⟩
  have R5 := R3.out.below (below_alloc w4 (.cells #[.int .i64 (-2), .int .i64 1, .int .i64 3] 3))
  rcases R5 with h0 | ⟨b, off, rfl, hc⟩
  · cases h0
  have k0 := hc 0 (by decide)
  have k0' : ((w4.alloc (.cells #[.int .i64 (-2), .int .i64 1, .int .i64 3] 3)).drewN n).cell? ⟨b, off, none⟩ = some (.int .u8 172) := k0
  clear hc k0 R3
  go_wp2
  go_ret
  exact ⟨rfl, Below.dr (B3.out.trans (Below.to (below_alloc w4 _) B3.out.size)) n⟩

end Go.Proofs.YtieahneoofdneaaDoor
