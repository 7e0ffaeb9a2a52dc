/-
  Relate of the program's table of names, where it refuses. Helper text; the conditions are those typed.
-/
import Derived.Test.YthjhjifihhhphaaDoorWalkC
import Derived.Deep.RegionHeld3
import Derived.Deep.AppendLies
namespace Go.Proofs.YthjhjifihhhphaaDoor
set_option linter.unusedVariables false
set_option linter.unusedSimpArgs false
open Go.RowKit Go.Maps

theorem wf_of {n : Int} (h : -9223372036854775808 ≤ n ∧ n ≤ 9223372036854775807) : (Lit.int .i64 n).wf = true := WalkArith.wf_i64 h

theorem rel_bad {b : Nat} {t : Tab} {S : Nat → Prop} {w : World} (h : TabAt w b t S) (x op y : Int) (hbad : (t.known x && t.known y) = false ∨ op < 1 ∨ 7 < op) :
    Calls Tryd.prog 9 #[.pointer (some ⟨b, 0, none⟩), .int .i64 x, .int .i64 op, .int .i64 y] w fun e w' => e = .returned (.tuple #[.int .i64 (t.relRes x op y).1, .int .i64 (t.relRes x op y).2]) ∧ w = w' := by
  have hx := Lib.hid (known_in h x)
  have hy := Lib.hid (known_in h y)
  clear h
  cases hkx : t.known x with
  | false =>
    rw [hkx] at hx
    have hr : t.relRes x op y = (0, 22) := by simp [Tab.relRes, hkx]
    rw [hr]
    clear hr hbad hkx
    go_enter Tryd.func9, Tryd.ntmps9
    go_wp2_with (go_at_call 11; refine hx.out.mono ?_; rintro e w' ⟨rfl, rfl⟩)
    go_ret2
    exact ⟨rfl, rfl⟩
  | true =>
    rw [hkx] at hx
    cases hky : t.known y with
    | false =>
      rw [hky] at hy
      have hr : t.relRes x op y = (0, 22) := by simp [Tab.relRes, hky]
      rw [hr]
      clear hr hbad hkx hky
      go_enter Tryd.func9, Tryd.ntmps9
      go_wp2_with fail
      refine hx.out.mono ?_; rintro e w' ⟨rfl, rfl⟩
      go_wp2_with fail
      refine hy.out.mono ?_; rintro e w' ⟨rfl, rfl⟩
      go_wp2
      go_ret2
      exact ⟨rfl, rfl⟩
    | true =>
      rw [hky] at hy
      have hop : op < 1 ∨ 7 < op := by
        rcases hbad with h1 | h1
        · simp [hkx, hky] at h1
        · exact h1
      have hr : t.relRes x op y = (0, 23) := by simp [Tab.relRes, hkx, hky, hop]
      rw [hr]
      clear hr hbad hkx hky
      rcases hop with h1 | h1
      all_goals
        go_enter Tryd.func9, Tryd.ntmps9
        go_wp2_with fail
        refine hx.out.mono ?_; rintro e w' ⟨rfl, rfl⟩
        go_wp2_with fail
        refine hy.out.mono ?_; rintro e w' ⟨rfl, rfl⟩
        go_wp2
        all_goals
          go_ret2
          exact ⟨rfl, rfl⟩

end Go.Proofs.YthjhjifihhhphaaDoor
