/-
  Sort and Same: the contracts. Helper text; the conditions are those typed.
-/
import Derived.Test.YtieahneoofdneaaDoorRows
import Derived.Test.YtieahneoofdneaaDoorShelf
import Derived.Test.YtieahneoofdneaaDoorLib
import Derived.Sort.OwnSortedInts
import Derived.Sort.Grow
import Derived.Lib.OwnBridge
import Derived.WalkKit
import Derived.BigQuiet
import Derived.Deep.QuietTactic
import Derived.StillTailTactics
import Derived.Lib.Hide
import Derived.OwnWalk
import Derived.KernelRfl
namespace Go.Proofs.YtieahneoofdneaaDoor
set_option linter.unusedVariables false
set_option linter.unusedSimpArgs false
open Go.RowKit Go.Maps Go.Shelf Go.Sort

theorem laidOut : laidOutB Tryd.prog = true := by kernel_rfl

/-- What Sort makes of a list. -/
def sorted (zs : List Int) : List Int := Lib.compact (zs.mergeSort fun x y => decide (x ≤ y))

/-- The slice with address a reads as the integers zs. -/
def IntsAt (w : World) (a : Option Addr) (zs : List Int) : Prop :=
  zs = [] ∨ ∃ b off, a = some ⟨b, off, none⟩ ∧ ∀ i, i < zs.length → w.cell? ⟨b, off + i, none⟩ = some (.int .i64 (zs.getD i 0))

/-- v is a slice of integers in memory made since w0, and of what was there nothing has turned. -/
def OwnI (w0 : World) (v : Value) (zs : List Int) (w : World) : Prop := w.ownsRow w0.heap.size 3 1 v zs.length (zs.map (Value.int .i64)) ∧ Below w0.heap.size w0 w

theorem OwnI.slice {w0 w : World} {v : Value} {zs : List Int} (h : OwnI w0 v zs w) : ∃ a c, v = .slice a zs.length c ∧ IntsAt w a zs := by
  obtain ⟨h, _⟩ := h
  rcases h.2 with ⟨rfl, h0⟩ | ⟨g, cap, cur, rfl, _⟩
  · exact ⟨none, 0, by rw [h0], .inl (List.length_eq_zero_iff.1 h0)⟩
  · refine ⟨_, _, rfl, .inr ⟨g, 0, rfl, fun i hi => ?_⟩⟩
    have := h.cellAt i (by omega)
    rw [Nat.zero_add, this]
    simp [List.getD, List.getElem?_eq_getElem hi]

theorem IntsAt.chg {S : Nat → Prop} {w w' : World} {a : Option Addr} {zs : List Int} (h : IntsAt w a zs) (hc : Chg S w w') (hn : ∀ b off, a = some ⟨b, off, none⟩ → ¬ S b) : IntsAt w' a zs := by
  rcases h with h | ⟨b, off, rfl, hcell⟩
  · exact .inl h
  · exact .inr ⟨b, off, rfl, fun i hi => (World.cell?_of_block (w := w) (hc.block b (World.block_lt_of_cell? w _ (hcell i hi)) (hn b off rfl))).trans (hcell i hi)⟩

theorem IntsAt.below {w w' : World} {a : Option Addr} {zs : List Int} (h : IntsAt w a zs) (hc : Below w.heap.size w w') : IntsAt w' a zs := by
  rcases h with h | ⟨b, off, rfl, hcell⟩
  · exact .inl h
  · exact .inr ⟨b, off, rfl, fun i hi => (World.cell?_of_block (w := w) (hc.block b (World.block_lt_of_cell? w _ (hcell i hi)))).trans (hcell i hi)⟩

theorem clone_in {w : World} {a : Option Addr} {zs : List Int} (h : IntsAt w a zs) (cap : Nat) (hl : zs.length * 8 ≤ 140737488355328) :
    Calls Tryd.prog 19 #[.slice a zs.length cap] w fun e w' => ∃ v, e = .returned v ∧ OwnI w v zs w' := by
  rcases h with rfl | ⟨b, off, rfl, hcell⟩
  · cases a with
    | none =>
      exact (Any.slices_Clone_int_nil Tryd.laysClone _ cap w).mono fun e w' ⟨he, hw⟩ => ⟨_, he, by subst hw; exact ⟨World.ownsRow_nil _ _ _ _, ⟨rfl, rfl, rfl, Nat.le_refl _, fun _ _ => rfl⟩⟩⟩
    | some a =>
      exact (Any.slices_Clone_int_zero Tryd.laysClone a cap w).mono fun e w' ⟨v, he, ho, _, hb⟩ => ⟨v, he, ho, hb⟩
  · exact (Any.slices_Clone_int Tryd.laysClone b off zs.length cap zs w (Nat.le_refl _) hl hcell).mono fun e w' ⟨v, he, ho, _, hb⟩ => ⟨v, he, by rw [List.take_length] at ho; exact ho, hb⟩

theorem sortS_in {w0 w : World} {v : Value} {zs : List Int} (h : OwnI w0 v zs w) (hl : zs.length < 4611686018427387904) :
    Calls Tryd.prog 20 #[v] w fun e w' => e = .returned (.tuple #[]) ∧ OwnI w0 v (zs.mergeSort fun x y => decide (x ≤ y)) w' := by
  obtain ⟨ho, hb⟩ := h
  have hlen : (zs.mergeSort fun x y => decide (x ≤ y)).length = zs.length := List.length_mergeSort zs
  rcases ho.2 with ⟨rfl, h0⟩ | ⟨g, cap, cur, hv, hbase, hg, h1, h2, h3, h4⟩
  · have hz := List.length_eq_zero_iff.1 h0
    subst hz
    exact (Any.slices_Sort_int_none Tryd.laysSort none 0 w).mono fun e w' ⟨he, hw⟩ => ⟨he, by subst hw; rw [List.mergeSort_nil]; exact ⟨World.ownsRow_nil _ _ _ _, hb⟩⟩
  · subst hv
    obtain ⟨g', cap', hv, _, hlt, _, _, _, hH⟩ := Lib.holds_of_ownsRow (enc := Value.int .i64) ho (by simp)
    simp only [Value.slice.injEq, Option.some.injEq, Addr.mk.injEq, true_and, and_true] at hv
    obtain ⟨rfl, rfl⟩ := hv
    refine (Any.slices_Sort_int Tryd.laysSort g 0 cap zs w hH hlt hl).mono fun e w' ⟨he, n, os, hw⟩ => ⟨he, ?_⟩
    subst hw
    refine ⟨?_, ?_⟩
    · rw [hlen]
      exact ownsRow_sortedI (n := n) (os := os) hlen hbase hg h1 h2 h3
    · exact hb.grown (grownBy_sortedI _) hb.size (fun j hj => by cases hj; exact hbase)

theorem compact_in {w0 w : World} {v : Value} {zs : List Int} (h : OwnI w0 v zs w) (hl : zs.length < 4611686018427387904) :
    Calls Tryd.prog 21 #[v] w fun e w' => ∃ v', e = .returned v' ∧ OwnI w0 v' (Lib.compact zs) w' := by
  obtain ⟨ho, hb⟩ := h
  have hle := Lib.compact_length_le zs
  rcases ho.2 with ⟨rfl, h0⟩ | ⟨g, cap, cur, hv, hbase, hg, h1, h2, h3, h4⟩
  · have hz := List.length_eq_zero_iff.1 h0
    subst hz
    exact (Any.slices_Compact_int_empty Tryd.laysCompact none 0 w).mono fun e w' ⟨he, hw⟩ => ⟨_, he, by subst hw; exact ⟨World.ownsRow_nil _ _ _ _, hb⟩⟩
  · subst hv
    obtain ⟨g', cap', hv, _, hlt, _, _, _, hH⟩ := Lib.holds_of_ownsRow (enc := Value.int .i64) ho (by simp)
    simp only [Value.slice.injEq, Option.some.injEq, Addr.mk.injEq, true_and, and_true] at hv
    obtain ⟨rfl, rfl⟩ := hv
    refine (Any.slices_Compact_int Tryd.laysCompact g 0 cap zs w hH (by omega) h1).mono fun e w' ⟨he, q, hw⟩ => ⟨_, he, ?_⟩
    subst hw
    have hc := Lib.ownsRow_putRow (q := q) (k := (Lib.compact zs).length) (ys := Lib.compact zs ++ List.replicate (zs.length - (Lib.compact zs).length) 0) ho (by simp; omega) (by omega)
    rw [List.take_left] at hc
    exact ⟨hc, Lib.below_putRow hb hbase⟩

theorem sort_in {w : World} {a : Option Addr} {zs : List Int} (h : IntsAt w a zs) (cap : Nat) (hl : zs.length * 8 ≤ 140737488355328) :
    Calls Tryd.prog 12 #[.slice a zs.length cap] w fun e w' => ∃ v, e = .returned v ∧ OwnI w v (sorted zs) w' := by
  have hm : (zs.mergeSort fun x y => decide (x ≤ y)).length = zs.length := List.length_mergeSort zs
  go_enter Tryd.func12, Tryd.ntmps12
  go_wp2_with fail
  refine (clone_in h cap hl).mono ?_
  rintro e w1 ⟨v, rfl, h1⟩
  have H1 := Lib.hid h1
  clear h1
  go_wp2_with fail
  refine (sortS_in H1.out (by omega)).mono ?_
  rintro e w2 ⟨rfl, h2⟩
  have H2 := Lib.hid h2
  clear h2
  go_wp2_with fail
  refine (compact_in H2.out (by omega)).mono ?_
  rintro e w3 ⟨v', rfl, h3⟩
  have H3 := Lib.hid h3
  clear h3
  go_wp2
  go_ret
  exact ⟨_, rfl, H3.out⟩

theorem same_in {w : World} {a b : Option Addr} {xs ys : List Int} (ha : IntsAt w a xs) (hb : IntsAt w b ys) (ca cb : Nat) (hl : xs.length ≤ maxLen) (hl2 : ys.length ≤ maxLen) :
    Calls Tryd.prog 15 #[.slice a xs.length ca, .slice b ys.length cb] w fun e w' => e = .returned (.bool (decide (xs = ys))) ∧ ∃ n, w' = w.drewN n := by
  unfold maxLen at hl hl2
  by_cases hlen : xs.length = ys.length
  · have hlen' : ((xs.length : Int) != (ys.length : Int)) = false := by simp [hlen]
    have HA := Lib.hid ha
    have HB := Lib.hid hb
    clear ha hb
    go_enter Tryd.func15, Tryd.ntmps15
    go_wp2_with fail
    go_loopw [5] (fun i wr => ∃ k : Nat, k ≤ xs.length ∧ i = .int .i64 k ∧ (∃ n, wr = w.drewN n) ∧ ∀ j, j < k → xs[j]? = ys[j]?) (fun i _ => xs.length - (intOf i).toNat)
    case atStart => exact ⟨0, Nat.zero_le _, rfl, ⟨0, rfl⟩, fun j hj => absurd hj (Nat.not_lt_zero j)⟩
    case round =>
      obtain ⟨k, hk, rfl, ⟨n, rfl⟩, hpre⟩ := hrel
      have HP := Lib.hid hpre
      clear hpre
      by_cases hkl : k < xs.length
      · have hkl2 : k < ys.length := by omega
        obtain ⟨b1, o1, rfl, hc1⟩ : ∃ b off, a = some ⟨b, off, none⟩ ∧ w.cell? ⟨b, off + k, none⟩ = some (.int .i64 xs[k]) := by
          rcases HA.out with h0 | ⟨b, off, e, hc⟩
          · rw [h0] at hkl; simp at hkl
          · exact ⟨b, off, e, by rw [hc k hkl]; simp [List.getD, List.getElem?_eq_getElem hkl]⟩
        obtain ⟨b2, o2, rfl, hc2⟩ : ∃ b' off, b = some ⟨b', off, none⟩ ∧ w.cell? ⟨b', off + k, none⟩ = some (.int .i64 ys[k]) := by
          rcases HB.out with h0 | ⟨b, off, e, hc⟩
          · rw [h0] at hkl2; simp at hkl2
          · exact ⟨b, off, e, by rw [hc k hkl2]; simp [List.getD, List.getElem?_eq_getElem hkl2]⟩
        have hlt : (k : Int) < (xs.length : Int) := by omega
        have hlt2 : (k : Int) < (ys.length : Int) := by omega
        by_cases he : xs[k] = ys[k]
        · have hB : ((xs[k] : Int) != ys[k]) = false := by simp [he]
          go_wp2
          go_quiet (fail)
          go_wp2
          go_roundw
          case rel =>
            refine ⟨k + 1, by omega, by go_num, ⟨n + nq, by simp⟩, fun j hj => ?_⟩
            by_cases hjk : j < k
            · exact HP.out j hjk
            · have : j = k := by omega
              subst this
              rw [List.getElem?_eq_getElem hkl, List.getElem?_eq_getElem hkl2, he]
          case measure => simp [intOf]; omega
        · have hB : ((xs[k] : Int) != ys[k]) = true := by simp [he]
          have hne : decide (xs = ys) = false := by
            simp only [decide_eq_false_iff_not]
            intro e
            subst e
            exact he rfl
          go_wp2
          go_quiet (fail)
          go_wp2
          go_ret
          exact ⟨by first | rfl | (rw [hne]; rfl), n + nq, by simp⟩
      · have hlt : ¬ (k : Int) < (xs.length : Int) := by omega
        have heq : decide (xs = ys) = true := by
          simp only [decide_eq_true_eq]
          apply List.ext_getElem?
          intro i
          by_cases hi : i < k
          · exact HP.out i hi
          · rw [List.getElem?_eq_none (by omega), List.getElem?_eq_none (by omega)]
        have HEQ := Lib.hid heq
        clear heq
        go_wp2
        go_ret
        exact ⟨by rw [HEQ.out]; rfl, _, rfl⟩
  · have hlen' : ((xs.length : Int) != (ys.length : Int)) = true := by simp; omega
    have hne : decide (xs = ys) = false := by
      simp only [decide_eq_false_iff_not]
      intro e
      exact hlen (by rw [e])
    rw [hne]
    go_enter Tryd.func15, Tryd.ntmps15
    go_wp2
    go_ret
    exact ⟨rfl, 0, rfl⟩
end Go.Proofs.YtieahneoofdneaaDoor
