/-
  Two texts, one behind the other: the walk. Helper text; the conditions are those typed.
-/
import Derived.Test.YtjcefgjgjhdbpaaDoorAwake
import Derived.Test.YtjcefgjgjhdbpaaDoorAppP
import Derived.Test.YtjcefgjgjhdbpaaDoorSameG
namespace Go.Proofs.YtjcefgjgjhdbpaaDoor
set_option linter.unusedVariables false
set_option linter.unusedSimpArgs false
open Go.RowKit Go.Maps

theorem PkgsV.low {w w' : World} {S : Nat → Prop} {l : List PkgT} {v : Value} (h : PkgsV w S l v) (hS : ∀ b, S b → b < w.heap.size) (hb : Below w.heap.size w w') : PkgsV w' (· < w'.heap.size) l v :=
  h.keep (fun b h => Nat.lt_of_lt_of_le (hS b h) hb.size) (fun b _ hl => hb.block b hl)
theorem new_lt {B : Nat} {w : World} : ∀ b, New B w b → b < w.heap.size := fun b h => h.2.lt
theorem bs_app (a b : ByteArray) : bs (a ++ b) = bs a ++ bs b := by
  unfold bs
  simp [ByteArray.data_append]
theorem ne0 {x : Int} (h : x ≠ 0) : (x == 0) = false ∧ (x != 0) = true := ⟨by simpa using h, by simpa using h⟩
set_option maxHeartbeats 8000000 in
set_option maxRecDepth 1000000 in
theorem suseJoins_walk (one two : ByteArray) (w : World) (h1 : one.size ≤ reachBytes) (h2 : two.size ≤ reachBytes) : Calls Tryd.prog 4 #[.string one, .string two] w fun e w' => e = .returned (.bool true) ∧ Below w.heap.size w w' := by
  have hr : reachBytes = 140737488351232 := rfl
  have HAW := Lib.hid (awake_c w)
  have hm : 1000000000000000000 ≤ maxLen := by decide
  have H1 := Lib.hid (fun W => sparse_c one (by omega) W)
  have H2 := Lib.hid (fun W => sparse_c two (by omega) W)
  have hal : (one ++ (⟨#[10]⟩ : ByteArray) ++ two).size = one.size + 1 + two.size := by
    rw [ByteArray.size_append, ByteArray.size_append]
    rfl
  have H3 := Lib.hid (fun W => sparse_c (one ++ (⟨#[10]⟩ : ByteArray) ++ two) (by omega) W)
  have z1 : ¬ 9223372036854775807 < one.size + 1 := by omega
  have z2 : ¬ 9223372036854775807 < one.size + 1 + two.size := by omega
  have hjoin := fun a b => @parse_join one two a b (one ++ (⟨#[10]⟩ : ByteArray) ++ two) (by
    rw [bs_app, bs_app, List.append_assoc]
    rfl)
  have hlong : 40000 < (one ++ (⟨#[10]⟩ : ByteArray) ++ two).size → suseParse (one ++ (⟨#[10]⟩ : ByteArray) ++ two) = ([], 132) := fun h => by
    unfold suseParse
    rw [if_pos h]
  obtain ⟨⟨a, e⟩, hA⟩ : ∃ x, suseParse one = x := ⟨_, rfl⟩
  obtain ⟨⟨b, f⟩, hB⟩ : ∃ x, suseParse two = x := ⟨_, rfl⟩
  rw [hA] at H1
  rw [hB] at H2
  obtain ⟨all, hall⟩ : ∃ x, one ++ (⟨#[10]⟩ : ByteArray) ++ two = x := ⟨_, rfl⟩
  rw [hall] at H3 hal hjoin hlong
  obtain ⟨⟨c, g⟩, hC⟩ : ∃ x, suseParse all = x := ⟨_, rfl⟩
  rw [hC] at H3 hjoin hlong
  have HJ : Hid (∀ (a b : List PkgT), all.size ≤ 40000 → suseParse one = (a, 0) → suseParse two = (b, 0) → ((c, g) = (a ++ b, 0) ∧ a.length + b.length ≤ 200) ∨ ((c, g) = ([], 131) ∧ 200 < a.length + b.length)) := Lib.hid fun a b h1 h2 h3 => hjoin a b h1 h2 h3
  have HL := Lib.hid hlong
  have HAE := Lib.hid (And.intro hA hB)
  clear hjoin hlong hA hB hC hr hm h1 h2
  replace hal := Lib.hid hal
  go_enter Tryd.func4, Tryd.ntmps4
  go_wp2_with fail
  refine HAW.out.mono ?_
  rintro e0 w1 ⟨rfl, hb1⟩
  have HB1 := Lib.hid hb1
  clear hb1
  go_wp2_with fail
  refine (H1.out _).mono ?_
  rintro e2 w2 ⟨va, rfl, hb2, hp2⟩
  have HB2 := Lib.hid hb2
  have HP2 := Lib.hid hp2
  clear hb2 hp2
  go_wp2_with fail
  refine (H2.out _).mono ?_
  rintro e3 w3 ⟨vb, rfl, hb3, hp3⟩
  have HB3 := Lib.hid hb3
  have HP3 := Lib.hid hp3
  clear hb3 hp3
  go_wp2_with fail
  refine (H3.out _).mono ?_
  rintro e4 w4 ⟨vc, rfl, hb4, hp4⟩
  have HB4 := Lib.hid hb4
  have HP4 := Lib.hid hp4
  clear hb4 hp4
  have HBW : Hid (Below w.heap.size w w4) := Lib.hid (below_tr (below_tr (below_tr HB1.out HB2.out) HB3.out) HB4.out)
  clear H1 H2 H3 HAW
  obtain ⟨xa, ca, rfl, hna, _⟩ := HP2.out
  obtain ⟨xb, cb, rfl, hnb, _⟩ := HP3.out
  have hla : a.length ≤ 549755813888 := by omega
  have hlb : b.length ≤ 549755813888 := by omega
  clear hna hnb
  obtain ⟨xc, cc, rfl, _, _⟩ := HP4.out
  by_cases hz : 40000 < all.size
  · have g1 : (40000 : Int) < (all.size : Int) := by omega
    obtain ⟨rfl, rfl⟩ : c = [] ∧ g = 132 := by
      have h := HL.out hz
      injection h with h1 h2
      exact ⟨h1, h2⟩
    clear hz HL HJ
    go_wp2_with fail
    go_ret
    exact ⟨by simp, HBW.out⟩
  · have g1 : ¬ (40000 : Int) < (all.size : Int) := by omega
    replace hz := Lib.hid hz
    clear HL
    by_cases he : e = 0
    · subst he
      by_cases hf : f = 0
      · subst hf
        have hj := HJ.out a b (by have := hz.out; omega) HAE.out.1 HAE.out.2
        clear HJ
        rcases hj with ⟨hj, hn⟩ | ⟨hj, hn⟩
        · obtain ⟨rfl, rfl⟩ : c = a ++ b ∧ g = 0 := by
            injection hj with h1 h2
            exact ⟨h1, h2⟩
          have g2 : ¬ (200 : Int) < (a.length : Int) + (b.length : Int) := by omega
          have g3 : IntKind.i64.wrap ((a.length : Int) + (b.length : Int)) = (a.length : Int) + (b.length : Int) := by rw [IntKind.wrap_i64]; omega
          clear hj
          have HPA : Hid (PkgsV w4 (· < w4.heap.size) a (.slice xa a.length ca)) := Lib.hid (HP2.out.low new_lt (below_tr HB3.out HB4.out))
          have HPB : Hid (PkgsV w4 (· < w4.heap.size) b (.slice xb b.length cb)) := Lib.hid (HP3.out.low new_lt HB4.out)
          have HPC : Hid (PkgsV w4 (· < w4.heap.size) (a ++ b) (.slice xc (a.length + b.length) cc)) := Lib.hid (by
            have h9 := HP4.out.low new_lt (Below.refl _ _)
            rw [List.length_append] at h9
            exact h9)
          replace hn := Lib.hid hn
          obtain ⟨w5, e5⟩ : ∃ w5, w4.alloc (.cells #[] 34) = w5 := ⟨_, rfl⟩
          have H5 : Hid (Below w4.heap.size w4 w5 ∧ MadeP w4.heap.size w5 (.slice (some ⟨w4.heap.size, 0, none⟩) 0 0) [] ∧ w4.heap.size ≤ w5.heap.size) := Lib.hid (by
            rw [← e5]
            exact ⟨below1 _ _, MadeP.empty (boxN_alloc w4 [] 34) (Nat.le_refl _), by simp⟩)
          have HPA5 : Hid (∀ W, Below w4.heap.size w4 W → PkgsV W (· < w4.heap.size) a (.slice xa a.length ca) ∧ PkgsV W (· < w4.heap.size) b (.slice xb b.length cb) ∧ PkgsV W (· < w4.heap.size) (a ++ b) (.slice xc (a.length + b.length) cc)) := Lib.hid fun W hW =>
            ⟨HPA.out.keep (fun _ h => h) (fun b _ hl => hW.block b hl), HPB.out.keep (fun _ h => h) (fun b _ hl => hW.block b hl), HPC.out.keep (fun _ h => h) (fun b _ hl => hW.block b hl)⟩
          have HLM : Hid (a.length + b.length ≤ 200) := hn
          go_wp2_with (first
            | (at_builtin; refine wpList_appP (B := w4.heap.size) rfl (.tmp 66) (.tmp 67) rfl rfl rfl H5.out.2.1 (HPA5.out _ H5.out.1).1 (by have := HLM.out; simp only [List.length_nil]; omega) H5.out.2.2 ?_; intro v6 w6 hm6 hb6; have H6 := Lib.hid (And.intro (H5.out.1.trans hb6) hm6); clear hm6 hb6)
            | (at_builtin; refine wpList_appP (B := w4.heap.size) rfl (.tmp 68) (.tmp 69) rfl rfl rfl H6.out.2 (HPA5.out _ H6.out.1).2.1 (by have := HLM.out; simp only [List.nil_append]; omega) H6.out.1.size ?_; intro v7 w7 hm7 hb7; have H7 := Lib.hid (And.intro (H6.out.1.trans hb7) hm7); clear hm7 hb7)
            | (go_at_call 8; refine (sameList_c (a ++ b) _ v7 _ _ w7 (HPA5.out _ H7.out.1).2.2 (by have h9 := H7.out.2.pkgs H7.out.1.size (by have := HLM.out; simp only [List.nil_append, List.length_append]; omega); rw [List.nil_append] at h9; exact h9)).mono ?_; rintro e8 w8 ⟨rfl, hb8⟩; have HB8 := Lib.hid hb8; clear hb8))
          go_ret
          exact ⟨by simp, HBW.out.trans (below_to (H7.out.1.trans (below_to HB8.out H7.out.1.size)) HBW.out.size)⟩
        · obtain ⟨rfl, rfl⟩ : c = [] ∧ g = 131 := by
            injection hj with h1 h2
            exact ⟨h1, h2⟩
          have g2 : (200 : Int) < (a.length : Int) + (b.length : Int) := by omega
          have g3 : IntKind.i64.wrap ((a.length : Int) + (b.length : Int)) = (a.length : Int) + (b.length : Int) := by rw [IntKind.wrap_i64]; omega
          clear hj
          go_wp2_with fail
          go_ret
          exact ⟨by simp, HBW.out⟩
      · obtain ⟨q1, q2⟩ := ne0 hf
        clear HJ
        go_wp2_with fail
        go_ret
        exact ⟨by simp, HBW.out⟩
    · obtain ⟨q1, q2⟩ := ne0 he
      clear HJ
      go_wp2_with fail
      go_ret
      exact ⟨by simp, HBW.out⟩
end Go.Proofs.YtjcefgjgjhdbpaaDoor
