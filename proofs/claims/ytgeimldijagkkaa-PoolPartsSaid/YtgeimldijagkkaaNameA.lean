/-
  A name: the contract. Helper text; the conditions are those typed.
-/
import Derived.Test.YtgeimldijagkkaaDepSpec
import Derived.Test.YtgeimldijagkkaaShelf
namespace Go.Proofs.Ytgeimldijagkkaa
set_option linter.unusedVariables false
set_option linter.unusedSimpArgs false
open Go.RowKit

theorem signs_c (w : World) : Calls Try.prog 55 #[] w fun e w' => e = .returned (.slice (some ⟨w.heap.size, 0, none⟩) 8 8) ∧ w' = w.alloc (.cells (signsL.map Value.string).toArray 9) := by
  go_enter Try.func55, Try.ntmps55
  go_wp2
  go_ret
  exact ⟨rfl, rfl⟩
theorem words_c (w : World) : Calls Try.prog 56 #[] w fun e w' => e = .returned (.slice (some ⟨w.heap.size, 0, none⟩) 7 7) ∧ w' = w.alloc (.cells (wordsL.map Value.string).toArray 9) := by
  go_enter Try.func56, Try.ntmps56
  go_wp2
  go_ret
  exact ⟨rfl, rfl⟩

theorem cell_list (w : World) (l : List Value) (t : TypeId) (j : Nat) (h : j < l.length) : (w.alloc (.cells l.toArray t)).cell? ⟨w.heap.size, j, none⟩ = some l[j] := by
  have := heap_alloc_new w (.cells l.toArray t)
  unfold World.cell?
  simp only [this]
  simp [h]

/-- signs(), then slices.Contains. -/
theorem hasS_c (zs : List ByteArray) (x : ByteArray) (w : World) (n : Nat) (hn : zs.length = n) (hb : n ≤ 100) :
    Calls Try.prog 54 #[.slice (some ⟨w.heap.size, 0, none⟩) n n, .string x] (w.alloc (.cells (zs.map Value.string).toArray 9)) fun e w' => e = .returned (.bool (Lib.containsS zs x)) ∧ w' = w.alloc (.cells (zs.map Value.string).toArray 9) := by
  have hc : ∀ j, j < zs.length → (w.alloc (.cells (zs.map Value.string).toArray 9)).cell? ⟨w.heap.size, 0 + j, none⟩ = some (.string (zs.getD j ByteArray.empty)) := by
    intro j hj
    have := cell_list w (zs.map Value.string) 9 j (by simpa using hj)
    rw [Nat.zero_add, this]
    simp [List.getD, hj]
  subst hn
  exact (Any.slices_Contains_string Try.layContainsS w.heap.size 0 zs.length zs.length zs x _ (Nat.le_refl _) (by omega) hc).mono fun e w' ⟨h1, h2⟩ => ⟨by rw [h1, List.take_length], h2⟩

theorem name_a (s : ByteArray) (w : World) (h : s.size = 0) : Calls Try.prog 28 #[.string s] w fun e w' => e = .returned (.bool false) ∧ Below w.heap.size w w' := by
  obtain rfl := bs_zero h
  go_enter Try.func28, Try.ntmps28
  go_wp2
  go_ret
  exact ⟨rfl, Below.refl _ _⟩
theorem name_b (s : ByteArray) (w : World) (h : 60 < s.size) : Calls Try.prog 28 #[.string s] w fun e w' => e = .returned (.bool false) ∧ Below w.heap.size w w' := by
  have he := bs_nonempty (s := s) (by omega)
  have h60' : (60 : Int) < (s.size : Int) := by omega
  go_enter Try.func28, Try.ntmps28
  go_wp2
  go_ret
  exact ⟨rfl, Below.refl _ _⟩

theorem u8b {a b : UInt8} (h : a ≠ b) : ((a.toNat : Int) == (b.toNat : Int)) = false := by
  rw [beq_eq_false_iff_ne]
  intro e
  exact h (UInt8.toNat_inj.1 (by omega))
theorem name_c1 (s : ByteArray) (w : World) (h : s.size ≤ 60) (h0 : 0 < s.size) (h1 : s[0] = 40) : Calls Try.prog 28 #[.string s] w fun e w' => e = .returned (.bool false) ∧ Below w.heap.size w w' := by
  have he := bs_nonempty (s := s) (by omega)
  have h60' : ¬ (60 : Int) < (s.size : Int) := by omega
  have hB1 : ((s[0].toNat : Int) == 40) = true := by rw [h1]; rfl
  clear h1
  go_enter Try.func28, Try.ntmps28
  go_wp2_with fail
  go_ret
  exact ⟨rfl, Below.refl _ _⟩
theorem name_c2 (s : ByteArray) (w : World) (h : s.size ≤ 60) (h0 : 0 < s.size) (h1 : s[0] ≠ 40) (h2 : s[0] = 41) : Calls Try.prog 28 #[.string s] w fun e w' => e = .returned (.bool false) ∧ Below w.heap.size w w' := by
  have he := bs_nonempty (s := s) (by omega)
  have h60' : ¬ (60 : Int) < (s.size : Int) := by omega
  have hB1 : ((s[0].toNat : Int) == 40) = false := u8b h1
  have hB2 : ((s[0].toNat : Int) == 41) = true := by rw [h2]; rfl
  clear h1 h2
  go_enter Try.func28, Try.ntmps28
  go_wp2_with fail
  go_ret
  exact ⟨rfl, Below.refl _ _⟩
theorem name_c3 (s : ByteArray) (w : World) (h : s.size ≤ 60) (h0 : 0 < s.size) (h1 : s[0] ≠ 40) (h2 : s[0] ≠ 41) (hB3 : (s.toList == [101, 108, 115, 101]) = true) : Calls Try.prog 28 #[.string s] w fun e w' => e = .returned (.bool false) ∧ Below w.heap.size w w' := by
  have he := bs_nonempty (s := s) (by omega)
  have h60' : ¬ (60 : Int) < (s.size : Int) := by omega
  have hB1 : ((s[0].toNat : Int) == 40) = false := u8b h1
  have hB2 : ((s[0].toNat : Int) == 41) = false := u8b h2
  clear h1 h2
  go_enter Try.func28, Try.ntmps28
  go_wp2_with fail
  go_ret
  exact ⟨rfl, Below.refl _ _⟩
theorem name_c4 (s : ByteArray) (w : World) (h : s.size ≤ 60) (h0 : 0 < s.size) (h1 : s[0] ≠ 40) (h2 : s[0] ≠ 41) (hB3 : (s.toList == [101, 108, 115, 101]) = false) (h4 : Lib.containsS signsL s = true) : Calls Try.prog 28 #[.string s] w fun e w' => e = .returned (.bool false) ∧ Below w.heap.size w w' := by
  have he := bs_nonempty (s := s) (by omega)
  have h60' : ¬ (60 : Int) < (s.size : Int) := by omega
  have hB1 : ((s[0].toNat : Int) == 40) = false := u8b h1
  have hB2 : ((s[0].toNat : Int) == 41) = false := u8b h2
  have HA := Lib.hid (hasS_c signsL s w 8 rfl (by omega))
  rw [h4] at HA
  clear h1 h2 h4
  go_enter Try.func28, Try.ntmps28
  go_wp2_with fail
  refine (signs_c w).mono ?_
  rintro e w1 ⟨rfl, e1⟩
  cases e1
  go_wp2_with fail
  refine (HA.out).mono ?_
  rintro e w1 ⟨rfl, e1⟩
  cases e1
  go_wp2_with fail
  go_ret
  exact ⟨rfl, below1 _ _⟩
theorem name_c5 (s : ByteArray) (w : World) (h : s.size ≤ 60) (h0 : 0 < s.size) (h1 : s[0] ≠ 40) (h2 : s[0] ≠ 41) (hB3 : (s.toList == [101, 108, 115, 101]) = false) (h4 : Lib.containsS signsL s = false) (h5 : Lib.containsS wordsL s = true) : Calls Try.prog 28 #[.string s] w fun e w' => e = .returned (.bool false) ∧ Below w.heap.size w w' := by
  have he := bs_nonempty (s := s) (by omega)
  have h60' : ¬ (60 : Int) < (s.size : Int) := by omega
  have hB1 : ((s[0].toNat : Int) == 40) = false := u8b h1
  have hB2 : ((s[0].toNat : Int) == 41) = false := u8b h2
  have HA := Lib.hid (hasS_c signsL s w 8 rfl (by omega))
  rw [h4] at HA
  clear h1 h2 h4
  go_enter Try.func28, Try.ntmps28
  go_wp2_with fail
  refine (signs_c w).mono ?_
  rintro e w1 ⟨rfl, e1⟩
  cases e1
  go_wp2_with fail
  refine (HA.out).mono ?_
  rintro e w1 ⟨rfl, e1⟩
  cases e1
  obtain ⟨w2, e2⟩ : ∃ w2, w.alloc (.cells (signsL.map Value.string).toArray 9) = w2 := ⟨_, rfl⟩
  have hb : Hid (Below w.heap.size w w2) := by rw [← e2]; exact below1 _ _
  rw [e2]
  clear e2 HA
  have HW := Lib.hid (hasS_c wordsL s w2 7 rfl (by omega))
  rw [h5] at HW
  clear h5
  go_wp2_with fail
  refine (words_c w2).mono ?_
  rintro e w1 ⟨rfl, e1⟩
  cases e1
  go_wp2_with fail
  refine (HW.out).mono ?_
  rintro e w1 ⟨rfl, e1⟩
  cases e1
  go_wp2_with fail
  go_ret
  exact ⟨rfl, hb.alloc hb.size _⟩
end Go.Proofs.Ytgeimldijagkkaa
