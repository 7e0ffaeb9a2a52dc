/-
  The map of the tags. Helper text; the conditions are those typed.
  The places of the lists. Helper text; the conditions are those typed.
-/
import Derived.Test.YtjcefgjgjhdbpaaDoorRdrA
import Derived.Carry
namespace Go.Proofs.YtjcefgjgjhdbpaaDoor
set_option linter.unusedVariables false
set_option linter.unusedSimpArgs false
open Go.RowKit Go.Maps

theorem keyed9 : Keyed Tryd.prog 9 := string_keyed Tryd.underlying9
/-- One key more. -/
def putF (f : Value → Option Value) (k : ByteArray) (x : Value) : Value → Option Value
  | .string t => if t = k then some x else f (.string t)
  | u => f u
theorem putF_same (f : Value → Option Value) (k : ByteArray) (x : Value) : putF f k x (.string k) = some x := by
  show (if k = k then some x else f (.string k)) = some x
  rw [if_pos rfl]
theorem putF_ne (f : Value → Option Value) (k : ByteArray) (x : Value) (u : Value) (h : u ≠ .string k) : putF f k x u = f u := by
  cases u <;> first | rfl | skip
  rename_i t
  show (if t = k then some x else f (.string t)) = f (.string t)
  rw [if_neg (fun e => h (by rw [e]))]
theorem putF_str (f : Value → Option Value) (k : ByteArray) (x : Value) (t : ByteArray) : putF f k x (.string t) = if bs t = bs k then some x else f (.string t) := by
  show (if t = k then some x else f (.string t)) = _
  by_cases h : t = k
  · rw [if_pos h, if_pos (by rw [h])]
  · rw [if_neg h, if_neg (fun e => h (by rw [← mkB_bs t, ← mkB_bs k, e]))]
set_option maxHeartbeats 2000000 in
set_option maxRecDepth 100000 in
/-- suse.lists. -/
theorem tagMap_c (w : World) : Calls Tryd.prog 10 #[] w fun e w' => e = .returned (.map (some w.heap.size)) ∧ Below w.heap.size w w' ∧ ∃ F, MapAt Tryd.prog 9 w' w.heap.size 7 F ∧ ∀ t, F (.string t) = tagFn t := by
  have hmm := run_makeMap (P := Tryd.prog) 36 w
  obtain ⟨w1, e1⟩ : ∃ w1, w.alloc (.map #[] 0) = w1 := ⟨_, rfl⟩
  have H1 : Hid (Below w.heap.size w w1 ∧ MapAt Tryd.prog 9 w1 w.heap.size 0 (fun _ => none)) := Lib.hid (by
    rw [← e1]
    exact ⟨below1 _ _, MapAt.made _ _ _⟩)
  rw [e1] at hmm
  clear e1
  obtain ⟨w2, r1, m2, g2, s2⟩ := H1.out.2.run_store keyed9 Tryd.underlying36 (by decide) (key := (.string ⟨#[80, 114, 118]⟩)) (val := (.func (.func 20) #[] #[])) rfl (putF (fun _ => none) ⟨#[80, 114, 118]⟩ (.func (.func 20) #[] #[])) (putF_same _ _ _) (fun u hu => putF_ne _ _ _ u hu)
  have H2 := Lib.hid (And.intro (H1.out.1.grown g2 H1.out.1.size (fun k e => by cases e; exact Nat.le_refl _)) m2)
  clear m2 g2 s2 H1
  obtain ⟨w3, r2, m3, g3, s3⟩ := H2.out.2.run_store keyed9 Tryd.underlying36 (by decide) (key := (.string ⟨#[82, 101, 113]⟩)) (val := (.func (.func 21) #[] #[])) rfl (putF (putF (fun _ => none) ⟨#[80, 114, 118]⟩ (.func (.func 20) #[] #[])) ⟨#[82, 101, 113]⟩ (.func (.func 21) #[] #[])) (putF_same _ _ _) (fun u hu => putF_ne _ _ _ u hu)
  have H3 := Lib.hid (And.intro (H2.out.1.grown g3 H2.out.1.size (fun k e => by cases e; exact Nat.le_refl _)) m3)
  clear m3 g3 s3 H2
  obtain ⟨w4, r3, m4, g4, s4⟩ := H3.out.2.run_store keyed9 Tryd.underlying36 (by decide) (key := (.string ⟨#[80, 114, 113]⟩)) (val := (.func (.func 22) #[] #[])) rfl (putF (putF (putF (fun _ => none) ⟨#[80, 114, 118]⟩ (.func (.func 20) #[] #[])) ⟨#[82, 101, 113]⟩ (.func (.func 21) #[] #[])) ⟨#[80, 114, 113]⟩ (.func (.func 22) #[] #[])) (putF_same _ _ _) (fun u hu => putF_ne _ _ _ u hu)
  have H4 := Lib.hid (And.intro (H3.out.1.grown g4 H3.out.1.size (fun k e => by cases e; exact Nat.le_refl _)) m4)
  clear m4 g4 s4 H3
  obtain ⟨w5, r4, m5, g5, s5⟩ := H4.out.2.run_store keyed9 Tryd.underlying36 (by decide) (key := (.string ⟨#[67, 111, 110]⟩)) (val := (.func (.func 23) #[] #[])) rfl (putF (putF (putF (putF (fun _ => none) ⟨#[80, 114, 118]⟩ (.func (.func 20) #[] #[])) ⟨#[82, 101, 113]⟩ (.func (.func 21) #[] #[])) ⟨#[80, 114, 113]⟩ (.func (.func 22) #[] #[])) ⟨#[67, 111, 110]⟩ (.func (.func 23) #[] #[])) (putF_same _ _ _) (fun u hu => putF_ne _ _ _ u hu)
  have H5 := Lib.hid (And.intro (H4.out.1.grown g5 H4.out.1.size (fun k e => by cases e; exact Nat.le_refl _)) m5)
  clear m5 g5 s5 H4
  obtain ⟨w6, r5, m6, g6, s6⟩ := H5.out.2.run_store keyed9 Tryd.underlying36 (by decide) (key := (.string ⟨#[79, 98, 115]⟩)) (val := (.func (.func 24) #[] #[])) rfl (putF (putF (putF (putF (putF (fun _ => none) ⟨#[80, 114, 118]⟩ (.func (.func 20) #[] #[])) ⟨#[82, 101, 113]⟩ (.func (.func 21) #[] #[])) ⟨#[80, 114, 113]⟩ (.func (.func 22) #[] #[])) ⟨#[67, 111, 110]⟩ (.func (.func 23) #[] #[])) ⟨#[79, 98, 115]⟩ (.func (.func 24) #[] #[])) (putF_same _ _ _) (fun u hu => putF_ne _ _ _ u hu)
  have H6 := Lib.hid (And.intro (H5.out.1.grown g6 H5.out.1.size (fun k e => by cases e; exact Nat.le_refl _)) m6)
  clear m6 g6 s6 H5
  obtain ⟨w7, r6, m7, g7, s7⟩ := H6.out.2.run_store keyed9 Tryd.underlying36 (by decide) (key := (.string ⟨#[82, 101, 99]⟩)) (val := (.func (.func 25) #[] #[])) rfl (putF (putF (putF (putF (putF (putF (fun _ => none) ⟨#[80, 114, 118]⟩ (.func (.func 20) #[] #[])) ⟨#[82, 101, 113]⟩ (.func (.func 21) #[] #[])) ⟨#[80, 114, 113]⟩ (.func (.func 22) #[] #[])) ⟨#[67, 111, 110]⟩ (.func (.func 23) #[] #[])) ⟨#[79, 98, 115]⟩ (.func (.func 24) #[] #[])) ⟨#[82, 101, 99]⟩ (.func (.func 25) #[] #[])) (putF_same _ _ _) (fun u hu => putF_ne _ _ _ u hu)
  have H7 := Lib.hid (And.intro (H6.out.1.grown g7 H6.out.1.size (fun k e => by cases e; exact Nat.le_refl _)) m7)
  clear m7 g7 s7 H6
  obtain ⟨w8, r7, m8, g8, s8⟩ := H7.out.2.run_store keyed9 Tryd.underlying36 (by decide) (key := (.string ⟨#[83, 117, 112]⟩)) (val := (.func (.func 26) #[] #[])) rfl (putF (putF (putF (putF (putF (putF (putF (fun _ => none) ⟨#[80, 114, 118]⟩ (.func (.func 20) #[] #[])) ⟨#[82, 101, 113]⟩ (.func (.func 21) #[] #[])) ⟨#[80, 114, 113]⟩ (.func (.func 22) #[] #[])) ⟨#[67, 111, 110]⟩ (.func (.func 23) #[] #[])) ⟨#[79, 98, 115]⟩ (.func (.func 24) #[] #[])) ⟨#[82, 101, 99]⟩ (.func (.func 25) #[] #[])) ⟨#[83, 117, 112]⟩ (.func (.func 26) #[] #[])) (putF_same _ _ _) (fun u hu => putF_ne _ _ _ u hu)
  have H8 := Lib.hid (And.intro (H7.out.1.grown g8 H7.out.1.size (fun k e => by cases e; exact Nat.le_refl _)) m8)
  clear m8 g8 s8 H7
  go_enter Tryd.func10, Tryd.ntmps10
  go_wp2_with fail
  go_ret
  refine ⟨rfl, H8.out.1, _, H8.out.2, fun t => ?_⟩
  simp only [putF_str]
  unfold tagFn listOf
  show (if bs t = [83, 117, 112] then _ else if bs t = [82, 101, 99] then _ else if bs t = [79, 98, 115] then _ else if bs t = [67, 111, 110] then _ else if bs t = [80, 114, 113] then _ else if bs t = [82, 101, 113] then _ else if bs t = [80, 114, 118] then _ else none) = _
  generalize bs t = q
  by_cases h1 : q = [80, 114, 118]
  · subst h1; rfl
  by_cases h2 : q = [82, 101, 113]
  · subst h2; rfl
  by_cases h3 : q = [80, 114, 113]
  · subst h3; rfl
  by_cases h4 : q = [67, 111, 110]
  · subst h4; rfl
  by_cases h5 : q = [79, 98, 115]
  · subst h5; rfl
  by_cases h6 : q = [82, 101, 99]
  · subst h6; rfl
  by_cases h7 : q = [83, 117, 112]
  · subst h7; rfl
  rw [if_neg h1, if_neg h2, if_neg h3, if_neg h4, if_neg h5, if_neg h6, if_neg h7, if_neg h1, if_neg h2, if_neg h3, if_neg h4, if_neg h5, if_neg h6, if_neg h7]
  rfl
end Go.Proofs.YtjcefgjgjhdbpaaDoor
namespace Go.Proofs.YtjcefgjgjhdbpaaDoor
set_option linter.unusedVariables false
set_option linter.unusedSimpArgs false
open Go.RowKit Go.Maps

theorem place0 (B : Nat) (w : World) : Calls Tryd.prog 20 #[.pointer (some ⟨B, 1, none⟩)] w fun e w' => e = .returned (.pointer (some ⟨B, 5, none⟩)) ∧ w' = w := by
  go_enter Tryd.func20, Tryd.ntmps20
  go_wp2_with fail
  go_ret
  exact ⟨rfl, rfl⟩
theorem place1 (B : Nat) (w : World) : Calls Tryd.prog 21 #[.pointer (some ⟨B, 1, none⟩)] w fun e w' => e = .returned (.pointer (some ⟨B, 6, none⟩)) ∧ w' = w := by
  go_enter Tryd.func21, Tryd.ntmps21
  go_wp2_with fail
  go_ret
  exact ⟨rfl, rfl⟩
theorem place2 (B : Nat) (w : World) : Calls Tryd.prog 22 #[.pointer (some ⟨B, 1, none⟩)] w fun e w' => e = .returned (.pointer (some ⟨B, 7, none⟩)) ∧ w' = w := by
  go_enter Tryd.func22, Tryd.ntmps22
  go_wp2_with fail
  go_ret
  exact ⟨rfl, rfl⟩
theorem place3 (B : Nat) (w : World) : Calls Tryd.prog 23 #[.pointer (some ⟨B, 1, none⟩)] w fun e w' => e = .returned (.pointer (some ⟨B, 8, none⟩)) ∧ w' = w := by
  go_enter Tryd.func23, Tryd.ntmps23
  go_wp2_with fail
  go_ret
  exact ⟨rfl, rfl⟩
theorem place4 (B : Nat) (w : World) : Calls Tryd.prog 24 #[.pointer (some ⟨B, 1, none⟩)] w fun e w' => e = .returned (.pointer (some ⟨B, 9, none⟩)) ∧ w' = w := by
  go_enter Tryd.func24, Tryd.ntmps24
  go_wp2_with fail
  go_ret
  exact ⟨rfl, rfl⟩
theorem place5 (B : Nat) (w : World) : Calls Tryd.prog 25 #[.pointer (some ⟨B, 1, none⟩)] w fun e w' => e = .returned (.pointer (some ⟨B, 10, none⟩)) ∧ w' = w := by
  go_enter Tryd.func25, Tryd.ntmps25
  go_wp2_with fail
  go_ret
  exact ⟨rfl, rfl⟩
theorem place6 (B : Nat) (w : World) : Calls Tryd.prog 26 #[.pointer (some ⟨B, 1, none⟩)] w fun e w' => e = .returned (.pointer (some ⟨B, 11, none⟩)) ∧ w' = w := by
  go_enter Tryd.func26, Tryd.ntmps26
  go_wp2_with fail
  go_ret
  exact ⟨rfl, rfl⟩
/-- A list's place. -/
theorem place_c (i : Fin 7) (B : Nat) (w : World) : Calls Tryd.prog (20 + i.val) #[.pointer (some ⟨B, 1, none⟩)] w fun e w' => e = .returned (.pointer (some ⟨B, 5 + i.val, none⟩)) ∧ w' = w := by
  match i with
  | 0 => exact place0 B w
  | 1 => exact place1 B w
  | 2 => exact place2 B w
  | 3 => exact place3 B w
  | 4 => exact place4 B w
  | 5 => exact place5 B w
  | 6 => exact place6 B w
end Go.Proofs.YtjcefgjgjhdbpaaDoor
