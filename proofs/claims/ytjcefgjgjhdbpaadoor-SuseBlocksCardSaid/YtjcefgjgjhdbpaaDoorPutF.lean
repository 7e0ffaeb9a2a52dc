/-
  A value is taken. Helper text; the conditions are those typed.
-/
import Derived.Test.YtjcefgjgjhdbpaaDoorPutE
import Derived.Test.YtjcefgjgjhdbpaaDoorPackC
namespace Go.Proofs.YtjcefgjgjhdbpaaDoor
set_option linter.unusedVariables false
set_option linter.unusedSimpArgs false
open Go.RowKit Go.Maps

theorem listOf_no {t : Wd} : t ≠ vndW → t ≠ flsW → listOf t = none ∨ ∃ i, listOf t = some i := fun _ _ => by
  cases listOf t with
  | none => exact .inl rfl
  | some i => exact .inr ⟨i, rfl⟩
/-- suse's put. -/
theorem put_c {w : World} {L B M : Nat} {st : SSt} {n : Nat} (h : RdSt w L B M st n) (hc : st.cur.isSome = true) (hn : n ≤ 1000000) (t x : ByteArray) (ht : t.size ≤ 40000) (hx : x.size ≤ 40000) :
    Calls Tryd.prog 17 #[.pointer (some ⟨B, 0, none⟩), .string t, .string x] w (StepP w L B M (putS st (bs t) (bs x)) (n + 1)) := by
  obtain ⟨K, p, vo, v, vf, h1, h2, h3, h4, h5⟩ := h
  obtain ⟨out, cur⟩ := st
  have hm : 40000 ≤ maxLen := by decide
  cases cur with
  | none => cases hc
  | some q =>
    obtain rfl : q = p := h2 q rfl
    have h1 : Rdr w L B M K out q true vo v vf := h1
    have h5 : out.length ≤ 200 := h5
    have hlw : L ≤ w.heap.size := Nat.le_trans h1.outs.lB (Nat.le_of_lt h1.box.lt)
    unfold putS putP
    simp only
    by_cases e1 : bs t = vndW
    · rw [if_pos e1]
      have et : t = ⟨#[86, 110, 100]⟩ := by rw [← mkB_bs t, e1]; rfl
      subst et
      refine (put_vnd L B M K out q vo v vf x (by omega) w h1).mono ?_
      rintro e w' ⟨rfl, hb, hr⟩
      refine ⟨hb, rfl, K, _, vo, v, vf, hr, fun q' hq => ?_, fun i => Nat.le_trans (h3 i) (by omega), Nat.le_trans h4 (by omega), h5⟩
      exact (Option.some.inj hq).symm
    · rw [if_neg e1]
      by_cases e2 : bs t = flsW
      · rw [if_pos e2]
        have et : t = ⟨#[70, 108, 115]⟩ := by rw [← mkB_bs t, e2]; rfl
        subst et
        refine (put_fls L B M K out q vo v vf x (by omega) (by omega) w h1).mono ?_
        rintro e w' ⟨rfl, hb, vf', hr⟩
        refine ⟨hb, rfl, K, _, vo, v, vf', hr, fun q' hq => ?_, fun i => Nat.le_trans (h3 i) (by omega), ?_, h5⟩
        · exact (Option.some.inj hq).symm
        · show (q.files ++ [mkB (trimT (bs x))]).length ≤ n + 1
          rw [List.length_append, List.length_singleton]
          omega
      · rw [if_neg e2]
        rcases listOf_no e1 e2 with e3 | ⟨i, e3⟩
        · rw [e3]
          refine (put_no L B M K out q vo v vf t x (by omega) e1 e2 e3 w h1).mono ?_
          rintro e w' ⟨rfl, rfl⟩
          exact ⟨Below.refl _ _, rfl, K, q, vo, v, vf, h1, fun q' hq => (Option.some.inj hq).symm, fun i => Nat.le_trans (h3 i) (by omega), Nat.le_trans h4 (by omega), h5⟩
        · rw [e3]
          simp only [mkB_bs]
          by_cases e4 : (depParse x).2 = 0
          · simp only [ne_eq, e4, not_true_eq_false, ↓reduceIte]
            have hd : depParse x = ((depParse x).1, 0) := by rw [← e4]
            refine (put_one L B M K out q vo v vf i t x (by omega) e3 (by omega) (depParse x).1 hd (Nat.le_trans (h3 i) hn) w h1).mono ?_
            rintro e w' ⟨rfl, hb, K', v', hr⟩
            refine ⟨hb, rfl, K', _, vo, v', vf, hr, fun q' hq => (Option.some.inj hq).symm, fun j => ?_, Nat.le_trans h4 (by omega), h5⟩
            by_cases ej : j = i
            · subst ej
              rw [add_L, List.length_append, List.length_singleton]
              have := h3 j
              omega
            · rw [add_Lne _ _ ej]
              exact Nat.le_trans (h3 j) (by omega)
          · simp only [ne_eq, e4, not_false_eq_true, ↓reduceIte]
            refine (put_bad L B M K out q vo v vf i t x (by omega) e3 (by omega) e4 w h1).mono ?_
            rintro e w' ⟨rfl, hb⟩
            exact ⟨below_to hb hlw, rfl⟩
end Go.Proofs.YtjcefgjgjhdbpaaDoor
