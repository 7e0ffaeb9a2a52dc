/-
  The first contracts of the program's table of names: Len, Relations, known, Find. Helper text; the conditions are those typed.
-/
import Derived.Test.YthjhjifihhhphaaRep
import Derived.BigQuiet
import Derived.Deep.QuietTactic
import Derived.StillTailTactics
import Derived.Lib.Hide
import Derived.OwnWalk
namespace Go.Proofs.Ythjhjifihhhphaa
set_option linter.unusedVariables false
set_option linter.unusedSimpArgs false
open Go.RowKit Go.Maps

theorem len_in {b : Nat} {t : Tab} {S : Nat → Prop} {w : World} (h : TabAt w b t S) :
    Calls Try.prog 17 #[.pointer (some ⟨b, 0, none⟩)] w fun e w' => e = .returned (.int .i64 t.names.length) ∧ w = w' := by
  obtain ⟨nv, lv, mi, mp, h⟩ := h
  obtain ⟨a, c, rfl⟩ := row_slice h.nrow
  have c0 := cell_of_blk h.blk 0 rfl
  clear h
  go_enter Try.func17, Try.ntmps17
  go_wp2
  go_ret
  exact ⟨rfl, rfl⟩

theorem relations_in {b : Nat} {t : Tab} {S : Nat → Prop} {w : World} (h : TabAt w b t S) :
    Calls Try.prog 18 #[.pointer (some ⟨b, 0, none⟩)] w fun e w' => e = .returned (.int .i64 t.rels.length) ∧ w = w' := by
  obtain ⟨nv, lv, mi, mp, h⟩ := h
  obtain ⟨a, c, rfl⟩ := row_slice h.lrow
  have c0 := cell_of_blk h.blk 2 rfl
  clear h
  go_enter Try.func18, Try.ntmps18
  go_wp2
  go_ret
  exact ⟨rfl, rfl⟩

theorem known_in {b : Nat} {t : Tab} {S : Nat → Prop} {w : World} (h : TabAt w b t S) (i : Int) :
    Calls Try.prog 19 #[.pointer (some ⟨b, 0, none⟩), .int .i64 i] w fun e w' => e = .returned (.bool (t.known i)) ∧ w = w' := by
  obtain ⟨nv, lv, mi, mp, h⟩ := h
  obtain ⟨a, c, rfl⟩ := row_slice h.nrow
  have c0 := cell_of_blk h.blk 0 rfl
  clear h
  by_cases h : 0 ≤ i
  · go_enter Try.func19, Try.ntmps19
    go_wp2
    go_ret
    exact ⟨by simp [Tab.known, h], rfl⟩
  · have h' : decide (0 ≤ i) = false := by simpa using h
    go_enter Try.func19, Try.ntmps19
    go_wp2
    go_ret
    exact ⟨by simp [Tab.known, h'], rfl⟩

theorem find_in {b : Nat} {t : Tab} {S : Nat → Prop} {w : World} (h : TabAt w b t S) (s : ByteArray) (hs : s.size ≤ maxLen) :
    Calls Try.prog 13 #[.pointer (some ⟨b, 0, none⟩), .string s] w fun e w' => e = .returned (.tuple #[.int .i64 (t.find s).1, .bool (t.find s).2]) ∧ w = w' := by
  obtain ⟨nv, lv, mi, mp, h⟩ := h
  have c0 := cell_of_blk h.blk 1 rfl
  have hid := h.ids
  have hkey := keyStr hs
  clear h
  go_enter Try.func13, Try.ntmps13
  go_wp2_with (at_lookup; refine wpList_lookup_is _ rfl _ _ 52 rfl 9 3 lawStr Try.underlying52 Try.underlying3 (zero3 _) mi _ _ rfl hid (.string s) _ rfl hkey (t.find s).1 (t.find s).2 (by simp [idsF, Tab.find]) ?_)
  go_ret2
  exact ⟨rfl, rfl⟩

end Go.Proofs.Ythjhjifihhhphaa
