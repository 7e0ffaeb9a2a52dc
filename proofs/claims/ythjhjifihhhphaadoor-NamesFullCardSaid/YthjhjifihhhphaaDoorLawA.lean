/-
  The calls at the head of all laws of this seat, and the walk of NamesNames. Helper text; no conditions.
-/
import Derived.Test.YthjhjifihhhphaaDoorWalkF
namespace Go.Proofs.YthjhjifihhhphaaDoor
set_option linter.unusedVariables false
set_option linter.unusedSimpArgs false
open Go.RowKit Go.Maps

/-- The call began in w0; now block b, made since, is the table t, and nothing that was there has turned. -/
def TabOwn (w0 : World) (b : Nat) (t : Tab) (w : World) : Prop := ∃ S, TabAt w b t S ∧ Chg (fun _ => False) w0 w ∧ ∀ k, S k → w0.heap.size ≤ k

theorem TabOwn.post {w0 w w' : World} {b : Nat} {t' : Tab} {S : Nat → Prop} (hc : Chg (fun _ => False) w0 w) (hs : ∀ k, S k → w0.heap.size ≤ k) (h : TabPost w S b t' w') : TabOwn w0 b t' w' := by
  obtain ⟨S', h1, h2, h3⟩ := h
  refine ⟨S', h1, hc.trans h2 (fun i hi hk => by have := hs i hk; omega), fun k hk => ?_⟩
  rcases h3 k hk with h | h
  · exact hs k h
  · have := hc.size; omega

theorem TabOwn.keep {w0 w w' : World} {b : Nat} {t : Tab} (h : TabOwn w0 b t w) (hc : Chg (fun _ => False) w w') : TabOwn w0 b t w' := by
  obtain ⟨S, h1, h2, h3⟩ := h
  exact ⟨S, h1.chg hc (fun _ _ h => h), h2.trans hc (fun _ _ h => h.elim), h3⟩

theorem TabOwn.chg {w0 w : World} {b : Nat} {t : Tab} (h : TabOwn w0 b t w) : Chg (fun _ => False) w0 w := by
  obtain ⟨S, h1, h2, h3⟩ := h
  exact h2

theorem TabOwn.ok {w0 w : World} {b : Nat} {t : Tab} (h : TabOwn w0 b t w) : t.Ok := by
  obtain ⟨S, h1, h2, h3⟩ := h
  exact h1.ok

theorem new_own {w0 w : World} (hc : Chg (fun _ => False) w0 w) : Calls Tryd.prog 5 #[] w fun e w' => ∃ b, e = .returned (.pointer (some ⟨b, 0, none⟩)) ∧ TabOwn w0 b Tab.new w' :=
  (new_in w).mono fun e w' ⟨b, he, hp⟩ => ⟨b, he, TabOwn.post hc (fun _ h => h.elim) hp⟩

theorem add_own {w0 w : World} {b : Nat} {t : Tab} (h : TabOwn w0 b t w) (s : ByteArray) (hs : s.size ≤ maxLen) :
    Calls Tryd.prog 6 #[.pointer (some ⟨b, 0, none⟩), .string s] w fun e w' => e = .returned (.tuple #[.int .i64 (t.addRes s).1, .int .i64 (t.addRes s).2]) ∧ TabOwn w0 b (t.add s) w' := by
  obtain ⟨S, h1, h2, h3⟩ := h
  exact (add_in h1 s hs).mono fun e w' ⟨he, hp⟩ => ⟨he, TabOwn.post h2 h3 hp⟩

theorem rel_own {w0 w : World} {b : Nat} {t : Tab} (h : TabOwn w0 b t w) (x op y : Int) :
    Calls Tryd.prog 9 #[.pointer (some ⟨b, 0, none⟩), .int .i64 x, .int .i64 op, .int .i64 y] w fun e w' => e = .returned (.tuple #[.int .i64 (t.relRes x op y).1, .int .i64 (t.relRes x op y).2]) ∧ TabOwn w0 b (t.rel x op y) w' := by
  obtain ⟨S, h1, h2, h3⟩ := h
  exact (rel_in h1 x op y).mono fun e w' ⟨he, hp⟩ => ⟨he, TabOwn.post h2 h3 hp⟩

theorem len_own {w0 w : World} {b : Nat} {t : Tab} (h : TabOwn w0 b t w) : Calls Tryd.prog 8 #[.pointer (some ⟨b, 0, none⟩)] w fun e w' => e = .returned (.int .i64 t.names.length) ∧ w = w' := by
  obtain ⟨S, h1, h2, h3⟩ := h
  exact len_in h1

/-- The calls whose answers the document fixes. -/
theorem awake_any (w : World) : Calls Tryd.prog 4 #[] w fun e w' => e = .returned (.bool true) ∧ Chg (fun _ => False) w w' := by
  go_enter Tryd.func4, Tryd.ntmps4
  go_wp2_with fail
  refine (new_own (Chg.refl _ w)).mono ?_
  rintro e w1 ⟨b, rfl, h1⟩
  have H1 := Lib.hid h1
  clear h1
  go_wp2_with fail
  refine (add_own H1.out ⟨#[97]⟩ (by decide)).mono ?_
  rintro e w2 ⟨rfl, h2⟩
  rw [show Tab.addRes Tab.new ⟨#[97]⟩ = (1, 0) by decide +kernel]
  have H2 := Lib.hid h2
  clear h2
  go_wp2_with fail
  refine (add_own H2.out ⟨#[98]⟩ (by decide)).mono ?_
  rintro e w3 ⟨rfl, h3⟩
  rw [show Tab.addRes (Tab.add Tab.new ⟨#[97]⟩) ⟨#[98]⟩ = (2, 0) by decide +kernel]
  have H3 := Lib.hid h3
  clear h3
  go_wp2_with fail
  refine (add_own H3.out ⟨#[97]⟩ (by decide)).mono ?_
  rintro e w4 ⟨rfl, h4⟩
  rw [show Tab.addRes (Tab.add (Tab.add Tab.new ⟨#[97]⟩) ⟨#[98]⟩) ⟨#[97]⟩ = (1, 0) by decide +kernel]
  have H4 := Lib.hid h4
  clear h4
  go_wp2_with fail
  refine (rel_own H4.out 1 4 2).mono ?_
  rintro e w5 ⟨rfl, h5⟩
  rw [show Tab.relRes (Tab.add (Tab.add (Tab.add Tab.new ⟨#[97]⟩) ⟨#[98]⟩) ⟨#[97]⟩) 1 4 2 = (0, 0) by decide +kernel]
  have H5 := Lib.hid h5
  clear h5
  go_wp2_with fail
  refine (len_own H5.out).mono ?_
  rintro e w6 ⟨rfl, rfl⟩
  rw [show (Tab.rel (Tab.add (Tab.add (Tab.add Tab.new ⟨#[97]⟩) ⟨#[98]⟩) ⟨#[97]⟩) 1 4 2).names.length = 3 by decide +kernel]
  go_wp2
  go_ret
  exact ⟨rfl, H5.out.chg⟩

end Go.Proofs.YthjhjifihhhphaaDoor
