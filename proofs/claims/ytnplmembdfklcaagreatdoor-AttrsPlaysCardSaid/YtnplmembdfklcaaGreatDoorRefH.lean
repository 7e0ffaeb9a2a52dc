/-
  SameValue: the walk. Helper text; the conditions are those typed.
-/
import Derived.Test.YtnplmembdfklcaaGreatDoorRefG
import Derived.Test.YtnplmembdfklcaaGreatDoorRefF
namespace Go.Proofs.YtnplmembdfklcaaGreatDoor
set_option linter.unusedVariables false
set_option linter.unusedSimpArgs false
open Go.RowKit Go.Maps

theorem beqI (x y : Int) : (x == y) = decide (x = y) := by
  by_cases h : x = y
  · subst h; simp
  · rw [decide_eq_false h]; simpa using h
set_option maxHeartbeats 2000000 in
set_option maxRecDepth 100000 in
theorem sameV_c (w : World) (u v : ValT) (a b : Option Addr) (n m ca cb : Nat) (S S' : Nat → Prop) (hu : StrsV w S u.list (.slice a n ca)) (hv : StrsV w S' v.list (.slice b m cb)) :
    Calls Tryz.prog 17 #[.agg #[.int .i64 u.kind, .int .i64 u.num, .string u.text, .slice a n ca], .agg #[.int .i64 v.kind, .int .i64 v.num, .string v.text, .slice b m cb]] w fun e w' =>
      e = .returned (.bool (decide (u.list = v.list) && decide (u.kind = v.kind) && decide (u.num = v.num) && decide (u.text = v.text))) ∧ Below w.heap.size w w' := by
  obtain ⟨W1, e1⟩ : ∃ W1, w.alloc (.cells #[.int .i64 u.kind, .int .i64 u.num, .string u.text, .slice a n ca] 31) = W1 := ⟨_, rfl⟩
  obtain ⟨W2, e2⟩ : ∃ W2, W1.alloc (.cells #[.int .i64 v.kind, .int .i64 v.num, .string v.text, .slice b m cb] 31) = W2 := ⟨_, rfl⟩
  have hz1 : W1.heap.size = w.heap.size + 1 := by rw [← e1]; simp
  have HX : Hid (Below w.heap.size w W2 ∧ BoxN W2 w.heap.size [.int .i64 u.kind, .int .i64 u.num, .string u.text, .slice a n ca] 31 ∧ BoxN W2 W1.heap.size [.int .i64 v.kind, .int .i64 v.num, .string v.text, .slice b m cb] 31) := by
    have b1 : Below w.heap.size w W1 := e1 ▸ below1 _ _
    have b2 : Below W1.heap.size W1 W2 := e2 ▸ below1 _ _
    refine ⟨below_tr b1 b2, BoxN.below (e1 ▸ boxN_alloc _ _ _) b2, ?_⟩
    rw [← e2]
    exact boxN_alloc _ _ _
  have HC := Lib.hid (same_c W2 a b n m ca cb u.list v.list hu.len hv.len ((txts_of_strs hu).below HX.out.1) ((txts_of_strs hv).below HX.out.1) (by have h1 := hu.len; obtain ⟨_, _, _, _, h, _⟩ := hu; unfold maxLen; omega))
  have q1 := beqI u.kind v.kind
  have q2 := beqI u.num v.num
  have q3 := beqS (a := u.text) (b := v.text)
  have HZ := Lib.hid hz1
  clear hu hv hz1
  generalize decide (u.list = v.list) = d0 at HC ⊢
  generalize decide (u.kind = v.kind) = d1 at q1 ⊢
  generalize decide (u.num = v.num) = d2 at q2 ⊢
  generalize decide (u.text = v.text) = d3 at q3 ⊢
  have x3 := HX.out.2.1.cell (j := 3) rfl
  have y3 := HX.out.2.2.cell (j := 3) rfl
  have HF : Hid (∀ w', Below W2.heap.size W2 w' → Below w.heap.size w w') := fun w' h => below_tr HX.out.1 h
  cases d0 <;> cases d1 <;> cases d2 <;> cases d3
  all_goals
    go_enter Tryz.func17, Tryz.ntmps17
    go_wp2_with (go_at_call 9; refine HC.out.mono ?_; rintro e w3 ⟨rfl, hb3⟩; have k0 := (HX.out.2.1.below hb3).cell (j := 0) rfl; have k1 := (HX.out.2.1.below hb3).cell (j := 1) rfl; have k2 := (HX.out.2.1.below hb3).cell (j := 2) rfl; have l0 := (HX.out.2.2.below hb3).cell (j := 0) rfl; have l1 := (HX.out.2.2.below hb3).cell (j := 1) rfl; have l2 := (HX.out.2.2.below hb3).cell (j := 2) rfl)
    go_ret
    exact ⟨rfl, HF.out _ hb3⟩
end Go.Proofs.YtnplmembdfklcaaGreatDoor
