/-
  A path and those that it is in: all ways. Helper text; the conditions are those typed.
-/
import Derived.Test.YtnplmembdfklcaaDoorUps
namespace Go.Proofs.YtnplmembdfklcaaDoor
set_option linter.unusedVariables false
set_option linter.unusedSimpArgs false
open Go.RowKit

/-- A path and those that it is in. -/
def upsL (p : ByteArray) : Option (List (List UInt8)) :=
  if bs p = [47] then some [] else match bs p with
    | [] => none
    | c :: r => if c = 47 ∧ p.size ≤ 200 ∧ cleanB (mkB r) = true ∧ (splitC 47 r).all okPart = true then some (upsFrom [] (splitC 47 r)) else none
def UpsP (p : ByteArray) (w : World) (e : Ending) (w' : World) : Prop :=
  (match upsL p with
    | some l => ∃ v, e = .returned (.tuple #[v, .bool true]) ∧ w'.ownsRow w.heap.size 9 1 v l.length (strsL l)
    | none => e = .returned (.tuple #[.slice none 0 0, .bool false])) ∧ Below w.heap.size w w'

set_option maxHeartbeats 2000000 in
set_option maxRecDepth 100000 in
theorem ups_c (p : ByteArray) (w : World) : Calls Tryd.prog 23 #[.string p] w (UpsP p w) := by
  have HBB : Hid (Below w.heap.size w ((w.alloc (.cells #[.slice none 0 0] 25)).alloc (.cells #[.bool true] 4)) ∧ Below w.heap.size w ((w.alloc (.cells #[.slice none 0 0] 25)).alloc (.cells #[.bool false] 4))) := ⟨below2 _ _ _, below2 _ _ _⟩
  by_cases hroot : bs p = [47]
  · have hq : (p.toList == [47]) = true := by rw [toList_bs, hroot]; rfl
    have HE : Hid (∀ w', Below w.heap.size w w' → UpsP p w (.returned (.tuple #[.slice none 0 0, .bool true])) w') := fun w' hb => by
      unfold UpsP upsL
      rw [if_pos hroot]
      exact ⟨⟨_, rfl, World.ownsRow_nil _ _ _ _⟩, hb⟩
    obtain ⟨Q, hQ⟩ : ∃ Q, UpsP p w = Q := ⟨_, rfl⟩
    rw [hQ] at HE ⊢
    replace hroot := Lib.hid hroot
    clear hQ
    go_enter Tryd.func23, Tryd.ntmps23
    go_wp2_with fail
    refine bodyPost_ret (v := .tuple #[.slice none 0 0, .bool true]) (by simp [results, Tryd.results23, go_sem]) rfl ?_
    exact HE.out _ HBB.out.1
  have hq : (p.toList == [47]) = false := by
    rw [toList_bs]
    simpa using hroot
  by_cases hgood : ∃ r, bs p = 47 :: r ∧ p.size ≤ 200 ∧ cleanB (mkB r) = true
  · obtain ⟨r, h1, h2, h3⟩ := hgood
    refine (ups_loop p (mkB r) (by rw [bs_mkB, h1]) (by rw [bs_mkB]; intro e; rw [e] at h1; exact hroot h1) h2 h3 w).mono ?_
    rintro e w' ⟨hp, hb⟩
    unfold UpsP upsL
    rw [if_neg hroot, h1]
    refine ⟨?_, hb⟩
    rw [bs_mkB] at hp
    by_cases hall : (splitC 47 r).all okPart = true
    · rw [if_pos hall] at hp
      simp only [hall, h2, h3, and_self, if_true]
      rw [upsFrom_len]
      exact hp
    · rw [if_neg hall] at hp
      simp only [hall, Bool.false_eq_true, and_false, if_false]
      exact hp
  · have hno : upsL p = none := by
      unfold upsL
      rw [if_neg hroot]
      cases hb : bs p with
      | nil => rfl
      | cons c r =>
        refine if_neg ?_
        rintro ⟨rfl, h2, h3, _⟩
        exact hgood ⟨r, hb, h2, h3⟩
    have HE : Hid (∀ w', Below w.heap.size w w' → UpsP p w (.returned (.tuple #[.slice none 0 0, .bool false])) w') := fun w' hb => by
      unfold UpsP
      rw [hno]
      exact ⟨rfl, hb⟩
    obtain ⟨Q, hQ⟩ : ∃ Q, UpsP p w = Q := ⟨_, rfl⟩
    rw [hQ] at HE ⊢
    clear hQ hno
    have HC := fun w => Any.strings_CutPrefix Tryd.layCut p ⟨#[47]⟩ w
    by_cases hpre : Lib.hasPrefix p.data.toList [47] = true
    · obtain ⟨r, hr⟩ : ∃ r, bs p = 47 :: r := by
        change Lib.hasPrefix (bs p) [47] = true at hpre
        cases hb : bs p with
        | nil => rw [hb] at hpre; cases hpre
        | cons c r =>
          rw [hb] at hpre
          have : c = 47 := by
            unfold Lib.hasPrefix at hpre
            simp at hpre
            exact hpre.symm
          exact ⟨r, by rw [this]⟩
      have HCUT : Hid (∀ w, Calls Tryd.prog 37 #[.string p, .string ⟨#[47]⟩] w fun e w' => e = .returned (.tuple #[.string (mkB r), .bool true]) ∧ w' = w) := fun w => by
        have h1 := HC w
        have h3 : (⟨(Lib.trimPrefix p.data.toList [47]).toArray⟩ : ByteArray) = mkB r := bs_inj (by
          show Lib.trimPrefix (bs p) [47] = r
          rw [hr]
          rfl)
        rw [show (⟨#[47]⟩ : ByteArray).data.toList = [47] from rfl, hpre, h3] at h1
        exact h1
      have HIDX : Hid (∀ w, Calls Tryd.prog 39 #[.string (mkB r), .func (.func 38) #[] #[]] w fun e w' => e = .returned (.int .i64 (Lib.idxFunc oddR true (mkB r))) ∧ Below w.heap.size w w') := fun w => Any.strings_IndexFunc Tryd.layIdxF 38 _ enters38 oddR (mkB r) w (odd_at w)
      obtain ⟨I0, hI1⟩ : ∃ I0, Lib.idxFunc oddR true (mkB r) = I0 := ⟨_, rfl⟩
      rw [hI1] at HIDX
      clear HC
      have hcl : ¬ I0 < 0 ∨ 200 < p.size := by
        by_cases h : I0 < 0
        · right
          by_cases h2 : 200 < p.size
          · exact h2
          · exact absurd ⟨r, hr, by omega, by unfold cleanB; rw [hI1]; exact decide_eq_true h⟩ hgood
        · exact .inl h
      generalize mkB r = R at HCUT HIDX hI1
      by_cases hlen : 200 < (p.size : Int)
      · have hd : decide (200 < (p.size : Int)) = true := decide_eq_true hlen
        replace hgood := Lib.hid hgood
        replace hr := Lib.hid hr
        replace hroot := Lib.hid hroot
        replace hpre := Lib.hid hpre
        replace hI1 := Lib.hid hI1
        go_enter Tryd.func23, Tryd.ntmps23
        go_wp2_with (go_at_call 37; refine (HCUT.out _).mono ?_; rintro e w' ⟨rfl, rfl⟩)
        refine bodyPost_ret (v := .tuple #[.slice none 0 0, .bool false]) (by simp [results, Tryd.results23, go_sem]) rfl ?_
        exact HE.out _ HBB.out.2
      · have hd : decide (200 < (p.size : Int)) = false := decide_eq_false hlen
        have hI2 : 0 ≤ I0 := by
          rcases hcl with h | h <;> omega
        clear hcl
        replace hgood := Lib.hid hgood
        replace hr := Lib.hid hr
        replace hroot := Lib.hid hroot
        replace hpre := Lib.hid hpre
        replace hI1 := Lib.hid hI1
        have HB0 : Hid (∀ w2, Below ((w.alloc (.cells #[.slice none 0 0] 25)).alloc (.cells #[.bool false] 4)).heap.size ((w.alloc (.cells #[.slice none 0 0] 25)).alloc (.cells #[.bool false] 4)) w2 → BoxN w2 w.heap.size [.slice none 0 0] 25 ∧ BoxN w2 (w.heap.size + 1) [.bool false] 4 ∧ Below w.heap.size w w2) := fun w2 hb2 => by
          have h0 := boxN_alloc w [.slice none 0 0] 25
          have h1 := boxN_alloc (w.alloc (.cells #[.slice none 0 0] 25)) [.bool false] 4
          rw [World.size_alloc] at h1
          exact ⟨(h0.below (below1 _ _)).below hb2, h1.below hb2, below_tr (below2 _ _ _) hb2⟩
        go_enter Tryd.func23, Tryd.ntmps23
        go_wp2_with (first
          | (go_at_call 37; refine (HCUT.out _).mono ?_; rintro e w' ⟨rfl, rfl⟩)
          | (go_at_call 39; refine (HIDX.out _).mono ?_; rintro e w2 ⟨rfl, hb2⟩; have HR := Lib.hid (HB0.out _ hb2); clear hb2; have c2 := HR.out.1.cell (j := 0) rfl; have f2 := HR.out.1.frozen 0; have c3 := HR.out.2.1.cell (j := 0) rfl; have f3 := HR.out.2.1.frozen 0))
        obtain ⟨W2, e2⟩ : ∃ W2, (w2.setCell ⟨w.heap.size, 0, none⟩ (.slice none 0 0)).setCell ⟨w.heap.size + 1, 0, none⟩ (.bool false) = W2 := ⟨_, rfl⟩
        have d2 : W2.cell? ⟨w.heap.size, 0, none⟩ = some (.slice none 0 0) := by
          rw [← e2]
          exact ((HR.out.1.set 0 _).other (by omega) _ _).cell (j := 0) rfl
        have d3 : W2.cell? ⟨w.heap.size + 1, 0, none⟩ = some (.bool false) := by
          rw [← e2]
          exact ((HR.out.2.1.other (by omega) _ _).set 0 _).cell (j := 0) rfl
        have hbW : Below w.heap.size w W2 := by
          rw [← e2]
          exact below_sc (below_sc HR.out.2.2 (Nat.le_refl _) _ _) (by omega) _ _
        rw [e2]
        refine bodyPost_ret (v := .tuple #[.slice none 0 0, .bool false]) (by simp [results, Tryd.results23, go_sem, d2, d3]) rfl ?_
        exact HE.out _ hbW
    · have hpf : Lib.hasPrefix p.data.toList [47] = false := by simpa using hpre
      obtain ⟨T, hT⟩ : ∃ T : ByteArray, (⟨(Lib.trimPrefix p.data.toList [47]).toArray⟩ : ByteArray) = T := ⟨_, rfl⟩
      have HCUT : Hid (∀ w, Calls Tryd.prog 37 #[.string p, .string ⟨#[47]⟩] w fun e w' => e = .returned (.tuple #[.string T, .bool false]) ∧ w' = w) := fun w => by
        have h1 := HC w
        rw [show (⟨#[47]⟩ : ByteArray).data.toList = [47] from rfl, hpf, hT] at h1
        exact h1
      clear HC hT hpf hpre
      replace hgood := Lib.hid hgood
      replace hroot := Lib.hid hroot
      go_enter Tryd.func23, Tryd.ntmps23
      go_wp2_with (go_at_call 37; refine (HCUT.out _).mono ?_; rintro e w' ⟨rfl, rfl⟩)
      refine bodyPost_ret (v := .tuple #[.slice none 0 0, .bool false]) (by simp [results, Tryd.results23, go_sem]) rfl ?_
      exact HE.out _ HBB.out.2
end Go.Proofs.YtnplmembdfklcaaDoor
