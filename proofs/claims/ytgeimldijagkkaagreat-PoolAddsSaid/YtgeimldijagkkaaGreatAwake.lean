/-
  What all statements ask at their head: calls whose answers the document fixes. Helper text; the conditions are those typed.
-/
import Derived.Test.YtgeimldijagkkaaGreatPkgA
import Derived.Test.YtgeimldijagkkaaGreatAddC
import Derived.Deep.Cut
namespace Go.Proofs.YtgeimldijagkkaaGreat
set_option linter.unusedVariables false
set_option linter.unusedSimpArgs false
open Go.RowKit Go.Maps

def litA : PkgT := ⟨⟨#[97]⟩, ⟨#[49, 45, 49]⟩, ⟨#[110, 111, 97, 114, 99, 104]⟩, ⟨#[]⟩, fun _ => 0, fun _ i => i.elim0, []⟩
def litB : PkgT := ⟨⟨#[98]⟩, ⟨#[50, 45, 49]⟩, ⟨#[110, 111, 97, 114, 99, 104]⟩, ⟨#[]⟩, fun _ => 0, fun _ i => i.elim0, []⟩
theorem chkA : pkgCheck litA = 0 := by kernel_rfl
theorem chkB : pkgCheck litB = 0 := by kernel_rfl
theorem named_main : nameB ⟨#[109, 97, 105, 110]⟩ = true := by kernel_rfl
theorem deps_none (w : World) (S : Nat → Prop) (args : Fin 0 → DepT) : DepsV w S 0 args (.slice none 0 0) := ⟨none, 0, rfl, by decide, fun h => absurd rfl h⟩
theorem strs_none (w : World) (S : Nat → Prop) : StrsV w S [] (.slice none 0 0) := ⟨none, 0, rfl, by simp, by decide, fun h => absurd rfl h⟩
theorem litA_v (w : World) (S : Nat → Prop) : PkgV w S litA (fun _ => .slice none 0 0) (.slice none 0 0) := ⟨by decide, by decide, by decide, by decide, fun _ => deps_none _ _ _, strs_none _ _⟩
theorem litB_v (w : World) (S : Nat → Prop) : PkgV w S litB (fun _ => .slice none 0 0) (.slice none 0 0) := ⟨by decide, by decide, by decide, by decide, fun _ => deps_none _ _ _, strs_none _ _⟩
def repoM : RepoT := ⟨⟨#[109, 97, 105, 110]⟩, 0, false, [litA, litB]⟩
def repoE : RepoT := ⟨⟨#[109, 97, 105, 110]⟩, 0, false, []⟩
theorem addM : addErr [] [] repoM = 0 := by
  unfold addErr
  rw [if_neg (fun h => h.elim (fun h => by have h2 := named_main.symm.trans h; cases h2) (fun h => by cases h)), if_neg (by decide), if_neg (by decide)]
  show firstBad [litA, litB] = 0
  unfold firstBad
  rw [if_neg (fun h => h chkA)]
  unfold firstBad
  rw [if_neg (fun h => h chkB)]
  rfl
theorem addE : addErr [⟨⟨#[109, 97, 105, 110]⟩, 0, false⟩] [⟨litA, 0⟩, ⟨litB, 0⟩] repoE = 66 := by
  unfold addErr
  exact if_pos (.inr (by decide))
theorem text_lit : textB litA.name litA.evr litA.arch = ⟨#[97, 45, 49, 45, 49, 46, 110, 111, 97, 114, 99, 104]⟩ := by decide
theorem ids_b : idsOf [⟨#[97]⟩, ⟨#[98]⟩] ⟨#[98]⟩ = [1] := by decide

set_option maxHeartbeats 8000000 in
set_option maxRecDepth 100000 in
/-- awake. -/
theorem awake_c (w : World) : Calls Tryz.prog 4 #[] w fun e w' => e = .returned (.bool true) ∧ Below w.heap.size w w' := by
  go_enter Tryz.func4, Tryz.ntmps4
  go_wp2_with fail
  refine (new_c 1 (.inl rfl) w.heap.size w (Nat.le_refl _)).mono ?_
  rintro e w1 ⟨rfl, hb1, hp1⟩
  have hP : Hid (w.heap.size + 1 < w1.heap.size) := hp1.box.lt
  have HB1 := Lib.hid hb1
  have HP1 := Lib.hid hp1
  clear hb1 hp1
  generalize (fun b => if b = w.heap.size then Role.map else if b = w.heap.size + 1 then .pool else .free) = role1 at HP1
  go_upto_region 5 with fail
  obtain ⟨w2, e2⟩ : ∃ w2, w1.alloc (.cells #[.string ⟨#[97]⟩, .string ⟨#[49, 45, 49]⟩, .string ⟨#[110, 111, 97, 114, 99, 104]⟩, .string ⟨#[]⟩, .slice none 0 0, .slice none 0 0, .slice none 0 0, .slice none 0 0, .slice none 0 0, .slice none 0 0, .slice none 0 0, .slice none 0 0] 44) = w2 := ⟨_, rfl⟩
  have HA2 : Hid (Below w1.heap.size w1 w2 ∧ BoxN w2 w1.heap.size [.string ⟨#[97]⟩, .string ⟨#[49, 45, 49]⟩, .string ⟨#[110, 111, 97, 114, 99, 104]⟩, .string ⟨#[]⟩, .slice none 0 0, .slice none 0 0, .slice none 0 0, .slice none 0 0, .slice none 0 0, .slice none 0 0, .slice none 0 0, .slice none 0 0] 44 ∧ w2.heap.size = w1.heap.size + 1) := by
    rw [← e2]
    exact ⟨below1 _ _, boxN_alloc _ _ _, by simp⟩
  have HP2 := Lib.hid (HP1.out.below HA2.out.1)
  have p0 := HA2.out.2.1.cell (j := 0) rfl
  have p1 := HA2.out.2.1.cell (j := 1) rfl
  have p2 := HA2.out.2.1.cell (j := 2) rfl
  have p3 := HA2.out.2.1.cell (j := 3) rfl
  have p4 := HA2.out.2.1.cell (j := 4) rfl
  have p5 := HA2.out.2.1.cell (j := 5) rfl
  have p6 := HA2.out.2.1.cell (j := 6) rfl
  have p7 := HA2.out.2.1.cell (j := 7) rfl
  have p8 := HA2.out.2.1.cell (j := 8) rfl
  have p9 := HA2.out.2.1.cell (j := 9) rfl
  have p10 := HA2.out.2.1.cell (j := 10) rfl
  have p11 := HA2.out.2.1.cell (j := 11) rfl
  obtain ⟨w3, e3⟩ : ∃ w3, w2.alloc (.cells #[.string ⟨#[97]⟩, .string ⟨#[49, 45, 49]⟩, .string ⟨#[110, 111, 97, 114, 99, 104]⟩, .string ⟨#[]⟩, .slice none 0 0, .slice none 0 0, .slice none 0 0, .slice none 0 0, .slice none 0 0, .slice none 0 0, .slice none 0 0, .slice none 0 0, .string ⟨#[98]⟩, .string ⟨#[50, 45, 49]⟩, .string ⟨#[110, 111, 97, 114, 99, 104]⟩, .string ⟨#[]⟩, .slice none 0 0, .slice none 0 0, .slice none 0 0, .slice none 0 0, .slice none 0 0, .slice none 0 0, .slice none 0 0, .slice none 0 0] 44) = w3 := ⟨_, rfl⟩
  have HB3 : Hid (Below w2.heap.size w2 w3 ∧ BoxN w3 w2.heap.size [.string ⟨#[97]⟩, .string ⟨#[49, 45, 49]⟩, .string ⟨#[110, 111, 97, 114, 99, 104]⟩, .string ⟨#[]⟩, .slice none 0 0, .slice none 0 0, .slice none 0 0, .slice none 0 0, .slice none 0 0, .slice none 0 0, .slice none 0 0, .slice none 0 0, .string ⟨#[98]⟩, .string ⟨#[50, 45, 49]⟩, .string ⟨#[110, 111, 97, 114, 99, 104]⟩, .string ⟨#[]⟩, .slice none 0 0, .slice none 0 0, .slice none 0 0, .slice none 0 0, .slice none 0 0, .slice none 0 0, .slice none 0 0, .slice none 0 0] 44) := by
    rw [← e3]
    exact ⟨below1 _ _, boxN_alloc _ _ _⟩
  have HP3 := Lib.hid (HP2.out.below HB3.out.1)
  have HA3 : Hid (BoxN w3 w1.heap.size [.string ⟨#[97]⟩, .string ⟨#[49, 45, 49]⟩, .string ⟨#[110, 111, 97, 114, 99, 104]⟩, .string ⟨#[]⟩, .slice none 0 0, .slice none 0 0, .slice none 0 0, .slice none 0 0, .slice none 0 0, .slice none 0 0, .slice none 0 0, .slice none 0 0] 44) := HA2.out.2.1.below HB3.out.1
  have hfree : ∀ b, w1.heap.size ≤ b → role1 b = .free := fun b hb => by
    by_cases hr : role1 b = .free
    · exact hr
    · exact absurd (HP1.out.hi b hr) (by omega)
  replace hfree := Lib.hid hfree
  have HADD : Hid (Calls Tryz.prog 8 #[.pointer (some ⟨w.heap.size + 1, 0, none⟩), .agg #[.string ⟨#[109, 97, 105, 110]⟩, .int .i64 0, .bool false, .slice (some ⟨w2.heap.size, 0, none⟩) 2 2]] w3 (AddPost role1 w3 w.heap.size (w.heap.size + 1) w.heap.size 1 [] [] repoM)) := by
    refine add_c w.heap.size role1 (w.heap.size + 1) w.heap.size _ _ _ 1 [] [] repoM (some ⟨w2.heap.size, 0, none⟩) 2 2 (fun b => b = w2.heap.size) w3 HP3.out (Nat.le_trans HB1.out.size (Nat.le_trans HA2.out.1.size HB3.out.1.size)) (by decide) (by decide) ?_ ?_
    · refine ⟨some ⟨w2.heap.size, 0, none⟩, 2, rfl, by decide, fun _ => ⟨w2.heap.size, 0, rfl, rfl, fun i hi => ?_⟩⟩
      match i, hi with
      | 0, _ => exact ⟨_, _, litA_v _ _, fun j v hj => HB3.out.2.cell (j := 0 + 0 * 12 + j) (by
          have hj12 : j < 12 := (List.getElem?_eq_some_iff.1 hj).1
          rw [← hj]
          match j, hj12 with
          | 0, _ => rfl
          | 1, _ => rfl
          | 2, _ => rfl
          | 3, _ => rfl
          | 4, _ => rfl
          | 5, _ => rfl
          | 6, _ => rfl
          | 7, _ => rfl
          | 8, _ => rfl
          | 9, _ => rfl
          | 10, _ => rfl
          | 11, _ => rfl)⟩
      | 1, _ => exact ⟨_, _, litB_v _ _, fun j v hj => HB3.out.2.cell (j := 0 + 1 * 12 + j) (by
          have hj12 : j < 12 := (List.getElem?_eq_some_iff.1 hj).1
          rw [← hj]
          match j, hj12 with
          | 0, _ => rfl
          | 1, _ => rfl
          | 2, _ => rfl
          | 3, _ => rfl
          | 4, _ => rfl
          | 5, _ => rfl
          | 6, _ => rfl
          | 7, _ => rfl
          | 8, _ => rfl
          | 9, _ => rfl
          | 10, _ => rfl
          | 11, _ => rfl)⟩
      | i + 2, h => exact absurd h (by show ¬ i + 2 < 2; omega)
    · rintro b rfl
      exact ⟨hfree.out _ HA2.out.1.size, HB3.out.2.lt⟩
  go_wp2_with fail
  refine HADD.out.mono ?_
  rintro e w4 ⟨he, role4, vr4, va4, lv4, hm4, hp4⟩
  rw [addM] at he
  subst he
  rw [addM, if_pos rfl, if_pos rfl] at hp4
  have HM4 := Lib.hid hm4
  have HP4 : Hid (PoolIn w4 w.heap.size role4 (w.heap.size + 1) w.heap.size vr4 va4 lv4 1 [⟨⟨#[109, 97, 105, 110]⟩, 0, false⟩] [⟨litA, 0⟩, ⟨litB, 0⟩] [⟨#[97]⟩, ⟨#[98]⟩]) := hp4
  have hA4 := HM4.out.block w1.heap.size HA3.out.lt (hfree.out _ (Nat.le_refl _))
  have HA4 : Hid (BoxN w4 w1.heap.size [.string ⟨#[97]⟩, .string ⟨#[49, 45, 49]⟩, .string ⟨#[110, 111, 97, 114, 99, 104]⟩, .string ⟨#[]⟩, .slice none 0 0, .slice none 0 0, .slice none 0 0, .slice none 0 0, .slice none 0 0, .slice none 0 0, .slice none 0 0, .slice none 0 0] 44 ∧ role4 w1.heap.size = .free) := ⟨HA3.out.to hA4.1, hA4.2⟩
  clear hm4 hp4 hA4 e2 e3 p0 p1 p2 p3 p4 p5 p6 p7 p8 p9 p10 p11 HADD HP3 HA3
  have HADE : Hid (Calls Tryz.prog 8 #[.pointer (some ⟨w.heap.size + 1, 0, none⟩), .agg #[.string ⟨#[109, 97, 105, 110]⟩, .int .i64 0, .bool false, .slice none 0 0]] w4 (AddPost role4 w4 w.heap.size (w.heap.size + 1) w.heap.size 1 [⟨⟨#[109, 97, 105, 110]⟩, 0, false⟩] [⟨litA, 0⟩, ⟨litB, 0⟩] repoE)) := by
    refine add_c w.heap.size role4 (w.heap.size + 1) w.heap.size _ _ _ 1 _ _ repoE none 0 0 (fun b => False) w4 HP4.out (Nat.le_trans HB1.out.size (Nat.le_trans HA2.out.1.size (Nat.le_trans HB3.out.1.size HM4.out.size))) (by decide) (by decide) ?_ ?_
    · exact ⟨none, 0, rfl, by decide, fun h => absurd rfl h⟩
    · exact fun b h => h.elim
  go_wp2_with fail
  refine HADE.out.mono ?_
  rintro e w5 ⟨he, role5, vr5, va5, lv5, hm5, hp5⟩
  rw [addE] at he
  subst he
  rw [addE, if_neg (by decide), if_neg (by decide)] at hp5
  have HM5 := Lib.hid hm5
  have HP5 : Hid (PoolIn w5 w.heap.size role5 (w.heap.size + 1) w.heap.size vr5 va5 lv5 1 [⟨⟨#[109, 97, 105, 110]⟩, 0, false⟩] [⟨litA, 0⟩, ⟨litB, 0⟩] [⟨#[97]⟩, ⟨#[98]⟩]) := hp5
  have HA5 : Hid (BoxN w5 w1.heap.size [.string ⟨#[97]⟩, .string ⟨#[49, 45, 49]⟩, .string ⟨#[110, 111, 97, 114, 99, 104]⟩, .string ⟨#[]⟩, .slice none 0 0, .slice none 0 0, .slice none 0 0, .slice none 0 0, .slice none 0 0, .slice none 0 0, .slice none 0 0, .slice none 0 0] 44) := HA4.out.1.to (HM5.out.block w1.heap.size HA4.out.1.lt HA4.out.2).1
  clear hm5 hp5 HADE HP4 HA4
  have HNM := named_c HP5.out (by decide) ⟨#[98]⟩ (by decide)
  rw [ids_b] at HNM
  replace HNM := Lib.hid HNM
  go_wp2_with fail
  refine HNM.out.mono ?_
  rintro e w6 ⟨⟨an, cn, rfl, hown6⟩, hb6⟩
  obtain ⟨gn, rfl⟩ : ∃ gn, an = some ⟨gn, 0, none⟩ := by
    rcases ownsRow_form hown6 with ⟨e, h0⟩ | ⟨g, c, e, _⟩
    · cases h0
    · cases e; exact ⟨_, rfl⟩
  have HN6 : Hid (w6.cell? ⟨gn, 0, none⟩ = some (.int .i64 1)) := ownsRow_cell hown6 (j := 0) rfl
  have HP6 := Lib.hid (HP5.out.below hb6)
  have HA6 := Lib.hid (HA5.out.below hb6)
  have HB6 := Lib.hid hb6
  clear hb6 hown6 HNM HP5 HA5
  have HPK : Hid (Calls Tryz.prog 15 #[.pointer (some ⟨w.heap.size + 1, 0, none⟩), .int .i64 0] w6 fun e w' => (∃ (b0 b1 b2 b3 b4 b5 b6 bf : Option Addr) (d0 d1 d2 d3 d4 d5 d6 nf df : Nat), e = .returned (.tuple #[.agg #[.string ⟨#[97]⟩, .string ⟨#[49, 45, 49]⟩, .string ⟨#[110, 111, 97, 114, 99, 104]⟩, .string ⟨#[]⟩, .slice b0 0 d0, .slice b1 0 d1, .slice b2 0 d2, .slice b3 0 d3, .slice b4 0 d4, .slice b5 0 d5, .slice b6 0 d6, .slice bf nf df], .int .i64 0, .int .i64 0])) ∧ Below w6.heap.size w6 w') := by
    refine (package_c HP6.out (by decide) (i := 0) (by decide) (pk := litA) rfl (at_ := 0) rfl).mono ?_
    rintro e w7 ⟨⟨a', c', af', nf, cf', he, hv7⟩, hb7⟩
    exact ⟨⟨a' 0, a' 1, a' 2, a' 3, a' 4, a' 5, a' 6, af', c' 0, c' 1, c' 2, c' 3, c' 4, c' 5, c' 6, nf, cf', he⟩, hb7⟩
  go_wp2_with fail
  refine HPK.out.mono ?_
  rintro e w7 ⟨⟨b0, b1, b2, b3, b4, b5, b6, bf, d0, d1, d2, d3, d4, d5, d6, nf, df, rfl⟩, hb7⟩
  have HP7 := Lib.hid (HP6.out.below hb7)
  have HA7 := Lib.hid (HA6.out.below hb7)
  have HB7 := Lib.hid hb7
  have HN7 : Hid (w7.cell? ⟨gn, 0, none⟩ = some (.int .i64 1)) := cell_tr hb7 HN6.out
  clear hb7 HPK HP6 HA6 HN6
  obtain ⟨w8, e8⟩ : ∃ w8, w7.alloc (.cells #[.string ⟨#[97]⟩, .string ⟨#[49, 45, 49]⟩, .string ⟨#[110, 111, 97, 114, 99, 104]⟩, .string ⟨#[]⟩, .slice b0 0 d0, .slice b1 0 d1, .slice b2 0 d2, .slice b3 0 d3, .slice b4 0 d4, .slice b5 0 d5, .slice b6 0 d6, .slice bf nf df] 44) = w8 := ⟨_, rfl⟩
  go_upto_region 9 with fail
  have HB8 : Hid (Below w7.heap.size w7 w8 ∧ BoxN w8 w7.heap.size (#[.string ⟨#[97]⟩, .string ⟨#[49, 45, 49]⟩, .string ⟨#[110, 111, 97, 114, 99, 104]⟩, .string ⟨#[]⟩, .slice b0 0 d0, .slice b1 0 d1, .slice b2 0 d2, .slice b3 0 d3, .slice b4 0 d4, .slice b5 0 d5, .slice b6 0 d6, .slice bf nf df]).toList 44) := by
    rw [← e8]
    exact ⟨below1 _ _, boxN_alloc _ _ _⟩
  have HP8 := Lib.hid (HP7.out.below HB8.out.1)
  have HA8 := Lib.hid (HA7.out.below HB8.out.1)
  have n1 : w8.cell? ⟨gn, 0, none⟩ = some (.int .i64 1) := cell_tr HB8.out.1 HN7.out
  have q0 : w8.cell? ⟨w7.heap.size, 0, none⟩ = some (.string ⟨#[97]⟩) := HB8.out.2.cell (j := 0) rfl
  have p0 := HA8.out.cell (j := 0) rfl
  have p1 := HA8.out.cell (j := 1) rfl
  have p2 := HA8.out.cell (j := 2) rfl
  have p3 := HA8.out.cell (j := 3) rfl
  have p4 := HA8.out.cell (j := 4) rfl
  have p5 := HA8.out.cell (j := 5) rfl
  have p6 := HA8.out.cell (j := 6) rfl
  have p7 := HA8.out.cell (j := 7) rfl
  have p8 := HA8.out.cell (j := 8) rfl
  have p9 := HA8.out.cell (j := 9) rfl
  have p10 := HA8.out.cell (j := 10) rfl
  have p11 := HA8.out.cell (j := 11) rfl
  have HL : Hid (Calls Tryz.prog 17 #[.pointer (some ⟨w.heap.size + 1, 0, none⟩)] w8 fun e w' => e = .returned (.int .i64 2) ∧ w8 = w') := len_c HP8.out
  have HT : Hid (Calls Tryz.prog 18 #[.agg #[.string ⟨#[97]⟩, .string ⟨#[49, 45, 49]⟩, .string ⟨#[110, 111, 97, 114, 99, 104]⟩, .string ⟨#[]⟩, .slice none 0 0, .slice none 0 0, .slice none 0 0, .slice none 0 0, .slice none 0 0, .slice none 0 0, .slice none 0 0, .slice none 0 0]] w8 fun e w' => e = .returned (.string ⟨#[97, 45, 49, 45, 49, 46, 110, 111, 97, 114, 99, 104]⟩) ∧ Below w8.heap.size w8 w') := by
    have := text_c litA (fun _ => none) (fun _ => 0) none 0 0 w8 (by decide)
    rw [text_lit] at this
    exact this
  go_wp2_with fail
  refine HL.out.mono ?_
  rintro e w9 ⟨rfl, rfl⟩
  go_wp2_with fail
  refine HT.out.mono ?_
  rintro e w9 ⟨rfl, hb9⟩
  have HEND : Hid (Below w.heap.size w w9) := by
    have h4 : Below w.heap.size w w4 := ⟨HM4.out.os.trans (HB3.out.1.os.trans (HA2.out.1.os.trans HB1.out.os)), HM4.out.tape.trans (HB3.out.1.tape.trans (HA2.out.1.tape.trans HB1.out.tape)), HM4.out.output.trans (HB3.out.1.output.trans (HA2.out.1.output.trans HB1.out.output)), Nat.le_trans HB1.out.size (Nat.le_trans HA2.out.1.size (Nat.le_trans HB3.out.1.size HM4.out.size)), fun b hb => by
      have h3 := below_tr HB1.out (below_tr HA2.out.1 HB3.out.1)
      have hf : role1 b = .free := by
        by_cases hr : role1 b = .free
        · exact hr
        · exact absurd (HP1.out.lo b hr) (by omega)
      exact ((HM4.out.block b (Nat.lt_of_lt_of_le hb h3.size) hf).1).trans (h3.block b hb)⟩
    have h5 : Below w.heap.size w w5 := ⟨HM5.out.os.trans h4.os, HM5.out.tape.trans h4.tape, HM5.out.output.trans h4.output, Nat.le_trans h4.size HM5.out.size, fun b hb => by
      have h3 := below_tr HB1.out (below_tr HA2.out.1 HB3.out.1)
      have hf : role1 b = .free := by
        by_cases hr : role1 b = .free
        · exact hr
        · exact absurd (HP1.out.lo b hr) (by omega)
      have hf4 := (HM4.out.block b (Nat.lt_of_lt_of_le hb h3.size) hf).2
      exact ((HM5.out.block b (Nat.lt_of_lt_of_le hb h4.size) hf4).1).trans (h4.block b hb)⟩
    exact below_tr h5 (below_tr HB6.out (below_tr HB7.out (below_tr HB8.out.1 hb9)))
  go_wp2_with fail
  go_ret
  exact ⟨rfl, HEND.out⟩
end Go.Proofs.YtgeimldijagkkaaGreat
