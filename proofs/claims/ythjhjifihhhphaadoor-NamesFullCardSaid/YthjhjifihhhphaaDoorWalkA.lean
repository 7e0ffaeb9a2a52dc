/-
  The first contracts of the program's table of names: Len, Relations, known, Find. Helper text; the conditions are those typed.
-/
import Derived.Test.YthjhjifihhhphaaDoorRep
import Derived.BigQuiet
import Derived.Deep.QuietTactic
import Derived.StillTailTactics
import Derived.Lib.Hide
import Derived.OwnWalk
namespace Go.Proofs.YthjhjifihhhphaaDoor
set_option linter.unusedVariables false
set_option linter.unusedSimpArgs false
open Go.RowKit Go.Maps

theorem len_in {b : Nat} {t : Tab} {S : Nat → Prop} {w : World} (h : TabAt w b t S) :
    Calls Tryd.prog 8 #[.pointer (some ⟨b, 0, none⟩)] w fun e w' => e = .returned (.int .i64 t.names.length) ∧ w = w' := by
  obtain ⟨nv, lv, mi, mp, h⟩ := h
  obtain ⟨a, c, rfl⟩ := row_slice h.nrow
  have c0 := cell_of_blk h.blk 0 rfl
  clear h
  go_enter Tryd.func8, Tryd.ntmps8
  go_wp2
  go_ret
  exact ⟨rfl, rfl⟩

theorem known_in {b : Nat} {t : Tab} {S : Nat → Prop} {w : World} (h : TabAt w b t S) (i : Int) :
    Calls Tryd.prog 11 #[.pointer (some ⟨b, 0, none⟩), .int .i64 i] w fun e w' => e = .returned (.bool (t.known i)) ∧ w = w' := by
  obtain ⟨nv, lv, mi, mp, h⟩ := h
  obtain ⟨a, c, rfl⟩ := row_slice h.nrow
  have c0 := cell_of_blk h.blk 0 rfl
  clear h
  by_cases h : 0 ≤ i
  · go_enter Tryd.func11, Tryd.ntmps11
    go_wp2
    go_ret
    exact ⟨by simp [Tab.known, h], rfl⟩
  · have h' : decide (0 ≤ i) = false := by simpa using h
    go_enter Tryd.func11, Tryd.ntmps11
    go_wp2
    go_ret
    exact ⟨by simp [Tab.known, h'], rfl⟩

end Go.Proofs.YthjhjifihhhphaaDoor
