/-
  Calls whose answers are fixed. Helper text; the conditions are those typed.
-/
import Derived.Test.YtjcefgjgjhdbpaaDoorParD
namespace Go.Proofs.YtjcefgjgjhdbpaaDoor
set_option linter.unusedVariables false
set_option linter.unusedSimpArgs false
open Go.RowKit Go.Maps

def lit1 : ByteArray := ⟨#[61, 80, 107, 103, 58, 32, 97, 32, 49, 32, 50, 32, 110, 111, 97, 114, 99, 104, 10, 61, 82, 101, 113, 58, 32, 98, 32, 62, 61, 32, 51, 10, 43, 80, 114, 118, 58, 10, 120, 10, 121, 32, 61, 32, 49, 10, 45, 80, 114, 118, 58, 10]⟩
theorem lit1_ok : ((suseParse lit1).2, (suseParse lit1).1.map fun p => (bs p.evr, p.n 0, p.n 1)) = (0, [([49, 45, 50], 2, 1)]) := by kernel_rfl
theorem lit2_ok : ((suseParse ⟨#[120, 10]⟩).2, (suseParse ⟨#[120, 10]⟩).1.length) = (130, 0) := by kernel_rfl
theorem lit1_is : ∃ p, suseParse lit1 = ([p], 0) ∧ p.evr = ⟨#[49, 45, 50]⟩ ∧ p.n 0 = 2 ∧ p.n 1 = 1 := by
  have h := lit1_ok
  obtain ⟨l, e⟩ : ∃ x, suseParse lit1 = x := ⟨_, rfl⟩
  rw [e] at h ⊢
  obtain ⟨ps, q⟩ := l
  injection h with h1 h2
  have h1 : q = 0 := h1
  subst h1
  obtain ⟨p, rfl⟩ : ∃ p, ps = [p] := by
    have h3 := congrArg List.length h2
    rw [List.length_map] at h3
    exact List.length_eq_one_iff.1 h3
  · simp only [List.map_cons, List.map_nil, List.cons.injEq, Prod.mk.injEq, and_true] at h2
    refine ⟨p, rfl, ?_, h2.2.1, h2.2.2⟩
    rw [← mkB_bs p.evr, h2.1]
    rfl
theorem lit2_is : suseParse ⟨#[120, 10]⟩ = ([], 130) := by
  have h := lit2_ok
  obtain ⟨l, e⟩ : ∃ x, suseParse ⟨#[120, 10]⟩ = x := ⟨_, rfl⟩
  rw [e] at h ⊢
  obtain ⟨ps, q⟩ := l
  injection h with h1 h2
  have h1 : q = 130 := h1
  have h2 : ps = [] := List.length_eq_zero_iff.1 h2
  rw [h1, h2]
set_option maxHeartbeats 4000000 in
set_option maxRecDepth 1000000 in
theorem awake_c (w : World) : Calls Tryd.prog 6 #[] w fun e w' => e = .returned (.bool true) ∧ Below w.heap.size w w' := by
  obtain ⟨p, hp, he, hn0, hn1⟩ := lit1_is
  have HC1 := Lib.hid (sparse_c lit1 (by decide) w)
  rw [hp] at HC1
  have HC2 := Lib.hid (fun W => sparse_c ⟨#[120, 10]⟩ (by decide) W)
  rw [lit2_is] at HC2
  clear hp
  go_enter Tryd.func6, Tryd.ntmps6
  go_wp2_with fail
  refine HC1.out.mono ?_
  rintro e w1 ⟨vo, rfl, hb1, a, c, rfl, _, hx⟩
  obtain ⟨b, off, rfl, _, hx⟩ := hx (by simp)
  obtain ⟨v, vf, hv, hcs⟩ := hx 0 (by simp)
  obtain ⟨xa, xc, rfl⟩ := hv.slices
  have hb : b < w1.heap.size := World.block_lt_of_cell? w1 _ (hcs 0 _ rfl)
  have HX : Hid (∀ W, Below w1.heap.size w1 W → W.cell? ⟨b, off + 1, none⟩ = some (.string ⟨#[49, 45, 50]⟩) ∧ W.cell? ⟨b, off + 4, none⟩ = some (.slice (xa 0) 2 (xc 0)) ∧ W.cell? ⟨b, off + 5, none⟩ = some (.slice (xa 1) 1 (xc 1))) := Lib.hid fun W hW => by
    have k1 := hcs.keep (hW.block b hb)
    rw [Nat.zero_mul, Nat.add_zero] at k1
    refine ⟨?_, ?_, ?_⟩
    · rw [← he]
      exact k1 1 _ rfl
    · rw [← hn0]
      exact k1 4 _ rfl
    · rw [← hn1]
      exact k1 5 _ rfl
  have HB1 := Lib.hid hb1
  clear hb1 hx hcs hv hb he hn0 hn1 HC1
  go_wp2_with fail
  refine (HC2.out _).mono ?_
  rintro e w2 ⟨vo, rfl, hb2, a2, c2, rfl, _, _⟩
  obtain ⟨x1, x4, x5⟩ := HX.out w2 hb2
  have HB2 := Lib.hid hb2
  clear hb2 HX HC2
  go_wp2_with fail
  go_ret
  exact ⟨by simp, below_tr HB1.out HB2.out⟩
end Go.Proofs.YtjcefgjgjhdbpaaDoor
