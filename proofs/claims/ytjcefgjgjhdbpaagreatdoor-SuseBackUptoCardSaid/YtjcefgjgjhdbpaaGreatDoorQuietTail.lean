/-
  A region that draws its order, whose operations but the last ones only read: the reading ones walked by the cheap step. Helper text; the conditions are those typed.
-/
import Derived.StillTail
import Derived.StillTactics
import Derived.BigQuiet
import Derived.Lib.Hide
namespace Go.Proofs.YtjcefgjgjhdbpaaGreatDoor
open Go.RowKit

theorem still_of_quiet {P : Program} {ops : Array Oper} {w : World} {Q : Act → Prop} : ∀ (l : List Oper) (a : Act), wpQuiet P ops (fun w' => w' = w) Q l a → wpStill P ops w Q l a
  | [], a, h => h
  | o :: rest, a, h => by
    unfold wpQuiet at h
    unfold wpStill
    by_cases hw : Region.wanted o (yielded ops a.tmps) = true
    · rw [if_pos hw] at h ⊢
      obtain ⟨v, hv, hn⟩ := h
      have h1 := hv w rfl
      have h2 := still_of_quiet rest _ hn
      unfold Oper.quietAt Oper.quietUpon at h1
      unfold Oper.still Oper.stillUpon
      generalize (execOp a.eval o).run P w = r at h1
      split at h1
      · obtain ⟨e1, e2⟩ := h1
        subst e2
        exact ⟨e1, h2⟩
      · obtain ⟨e1, e2⟩ := h1
        subst e2
        exact ⟨e1, h2⟩
      · obtain ⟨e1, e2⟩ := h1
        exact ⟨e1, v, e2, h2⟩
      · exact h1.elim
    · rw [if_neg hw] at h ⊢
      exact still_of_quiet rest _ h
/-- The rule. -/
theorem wp_quiet_tail {P : Program} {id : Nat} {Q : Exit → Act → World → Prop} {a : Act} {w : World} {l : List Oper} (n : Nat) (hm : P.follows .mixedOrders = true) (hB : Region.lexTailB .any l.toArray n = true)
    (h : ∀ wd, Hid (wd = w.drew) → wpQuiet P l.toArray (fun w' => w' = wd) (fun a' => wpList P l.toArray Q (l.drop n) a' wd) (l.take n) a) : (Code.region id l.toArray true).wp P Q a w :=
  wp_region_still_tail n hm hB (still_of_quiet _ _ (h _ rfl))
/-- All operations only read. -/
theorem wp_quiet_all {P : Program} {id : Nat} {Q : Exit → Act → World → Prop} {a : Act} {w : World} {l : List Oper} (hm : P.follows .mixedOrders = true) (hB : Region.lexB .any l.toArray = true)
    (h : ∀ wd, Hid (wd = w.drew) → wpQuiet P l.toArray (fun w' => w' = wd) (fun a' => ∀ w', w' = wd → Q .normal a' w') l a) : (Code.region id l.toArray true).wp P Q a w :=
  wp_region_quiet (C := fun w' => w' = w.drew) hm hB rfl (h _ rfl)
end Go.Proofs.YtjcefgjgjhdbpaaGreatDoor
