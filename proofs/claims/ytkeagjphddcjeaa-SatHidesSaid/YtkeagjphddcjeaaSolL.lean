/-
  DeleteFunc of a row of numbers. Helper text; the conditions are those typed.
-/
import Derived.Test.YtkeagjphddcjeaaSolI
namespace Go.Proofs.Ytkeagjphddcjeaa
set_option linter.unusedVariables false
set_option linter.unusedSimpArgs false
open Go.RowKit Go.Maps Go.Shelf Go.Sort Sat

theorem enters39 : ∀ args w, (callFunc 39 args).run Try.prog w = .ok (.enter 39 args) w := fun args w => by kernel_rfl
theorem is_at {W : World} {b : Nat} {i : Int} (hc : W.cell? ⟨b, 0, none⟩ = some (.int .i64 i)) (x : Int) : FnGives Try.prog 39 #[.pointer (some ⟨b, 0, none⟩)] #[.int .i64 x] (.bool (x == i)) W := by
  unfold FnGives
  go_enter Try.func39, Try.ntmps39
  go_wp2_with fail
  go_ret
  exact ⟨rfl, 0, rfl⟩
theorem del_c {w : World} {B b : Nat} {v : Value} {zs : List Int} {i : Int} (ho : w.ownsRow B 3 1 v zs.length (intsI zs)) (hl : zs.length < 4611686018427387904) (h0 : zs ≠ []) (hb : b < w.heap.size) (hne : v.ownBlock ≠ some b) (hc : w.cell? ⟨b, 0, none⟩ = some (.int .i64 i)) :
    Calls Try.prog 38 #[v, .func (.func 39) #[] #[.pointer (some ⟨b, 0, none⟩)]] w fun e w' => ∃ v', e = .returned v' ∧ w'.ownsRow B 3 1 v' (zs.filter fun x => !(x == i)).length (intsI (zs.filter fun x => !(x == i))) ∧ w.grownBy w' v.ownBlock ∧ v'.ownBlock = v.ownBlock := by
  rcases ho.2 with ⟨rfl, h1⟩ | ⟨g, cap, cur, hv, hbase, hg, h1, h2, h3, h4⟩
  · exact absurd (List.length_eq_zero_iff.1 h1) h0
  · subst hv
    have hgb : g ≠ b := fun e => hne (by rw [e]; rfl)
    obtain ⟨g', cap', hv, _, hlt, _, _, _, hH⟩ := Lib.holds_of_ownsRow (enc := Value.int .i64) ho (by simp)
    simp only [Value.slice.injEq, Option.some.injEq, Addr.mk.injEq, true_and, and_true] at hv
    obtain ⟨rfl, rfl⟩ := hv
    have hle : (zs.filter fun x => !(x == i)).length ≤ zs.length := List.length_filter_le _ _
    have hdel := AnyE.slices_DeleteFunc Try.layDel (Value.int .i64) (fun _ => rfl) (fun x => x == i) 39 #[.pointer (some ⟨b, 0, none⟩)] enters39 0 (fun w => Try.zeroValue3 w) g 0 cap zs.toArray w
      (fun W x hB => is_at ((hB.cell (p := ⟨b, 0, none⟩) hb).trans hc) x)
      (fun q os dk x hd => is_at (cell_blk ((grownBy_sortedI (w := w) (g := g) (n := q) (os := os) dk).block b hb (fun e => hgb (by injection e with e; exact e.symm))) hc) x) hH (by simp; omega) (by simpa using h1)
    refine Calls.mono hdel fun e w' ⟨he, q, hw⟩ => ⟨_, he, ?_⟩
    subst hw
    have hcc := Lib.ownsRow_putRow (q := q) (k := (zs.filter fun x => !(x == i)).length) (ys := (zs.filter fun x => !(x == i)) ++ List.replicate (zs.length - (zs.filter fun x => !(x == i)).length) 0) ho (by simp; omega) (by omega)
    rw [List.take_left] at hcc
    refine ⟨?_, ⟨rfl, rfl, rfl, by simp [putRow, mapBlock, Sort.ahead], fun k hk hne => ?_⟩, rfl⟩
    · exact hcc
    · have : g ≠ k := fun e => hne (by rw [e]; rfl)
      simp [putRow, mapBlock, Sort.ahead, Array.getElem?_modify, this]
end Go.Proofs.Ytkeagjphddcjeaa
