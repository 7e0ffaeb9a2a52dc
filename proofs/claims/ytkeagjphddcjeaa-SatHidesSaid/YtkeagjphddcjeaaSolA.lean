/-
  The solver: of, is; what stays. Helper text; the conditions are those typed.
-/
import Derived.Test.YtkeagjphddcjeaaSolMem
import Derived.Test.YtkeagjphddcjeaaQuietTail
import Derived.Deep.QuietTactic
import Derived.BigQuiet
import Derived.BigRegion
import Derived.Deep.Cut
import Derived.Deep.CutRange
import Derived.Deep.CutBlock
import Derived.Deep.RegionLaw
namespace Go.Proofs.Ytkeagjphddcjeaa
set_option linter.unusedVariables false
set_option linter.unusedSimpArgs false
open Go.RowKit Go.Maps Sat

section
variable {w w' : World} {B : Nat} {role role' : Nat → Role} {S M gv gl gr : Nat} {vc vt vm : Value} {head n : Nat} {cv : Nat → Value} {wo : Int → Option Value} {wl : Int → List Nat} {cs : List Cl} {tr : List En} {mk : List Nat} {T : Role → Prop}

theorem SolIn.blk (h : SolIn w B role S M gv gl gr vc vt vm head n cv wo wl cs tr mk) (hs : Step T role w role' w') {b : Nat} {R : Role} (hr : role b = R) (hR : R ≠ .free) (hT : ¬ T R) : w'.heap[b]? = w.heap[b]? ∧ role' b = R := by
  obtain ⟨h1, h2⟩ := hs.same b (h.hi b (by rw [hr]; exact hR)) (by rw [hr]; exact hT)
  exact ⟨h1, h2.trans hr⟩
theorem Step.lo {h : ∀ b, role b ≠ .free → B ≤ b} (hs : Step T role w role' w') (hB : B ≤ w.heap.size) : ∀ b, role' b ≠ .free → B ≤ b := fun b hr => by
  rcases (hs.dom b hr).2 with h1 | h1
  · exact h b h1
  · omega
theorem RowZ.to {v : Value} {xs : List Value} (h : RowZ w B v xs) (hk : (∀ a, v ≠ .slice (some a) 0 0) → ∀ g, v.ownBlock = some g → w'.heap[g]? = w.heap[g]?) : RowZ w' B v xs := by
  by_cases hz : ∃ a, v = .slice (some a) 0 0
  · obtain ⟨a, ha⟩ := hz
    rcases h with h1 | h1
    · have h0 : xs = [] := by
        have := h1.2
        rcases this with ⟨e, _⟩ | ⟨g, cap, cur, e, _⟩
        · rw [ha] at e; cases e
        · rw [ha] at e
          injection e with _ e2 _
          exact List.eq_nil_of_length_eq_zero e2.symm
      exact .inr ⟨a, ha, h0⟩
    · exact .inr h1
  · rcases h with h1 | ⟨a, ha, _⟩
    · exact .inl (ownsRow_to h1 (hk fun a ha => hz ⟨a, ha⟩))
    · exact absurd ⟨a, ha⟩ hz
/-- What leaves the solver's blocks alone leaves the solver. -/
theorem SolIn.keep (h : SolIn w B role S M gv gl gr vc vt vm head n cv wo wl cs tr mk) (hs : Step T role w role' w') (hT : ∀ r, T r → r = .kept) (hB : B ≤ w.heap.size) : SolIn w' B role' S M gv gl gr vc vt vm head n cv wo wl cs tr mk := by
  obtain ⟨fl, hl1, hl2⟩ := h.levs
  obtain ⟨fr, hr1, hr2⟩ := h.whys
  refine ⟨h.box.to (h.blk hs h.rS (by simp) (fun h => Role.noConfusion (hT _ h))).1, ownsRow_to h.crow fun g hg => (h.blk hs (h.rc g hg) (by simp) (fun h => Role.noConfusion (hT _ h))).1, fun i c hc => ownsRow_to (h.clause i c hc) fun g hg => (h.blk hs (h.rC i g (List.getElem?_eq_some_iff.1 hc).1 hg) (by simp) (fun h => Role.noConfusion (hT _ h))).1,
    h.watch.block (h.blk hs h.rM (by simp) (fun h => Role.noConfusion (hT _ h))).1, h.wdom, fun l => (h.wlist l).to fun hne g hg => ?_, h.vals.to (h.blk hs h.rv (by simp) (fun h => Role.noConfusion (hT _ h))).1, ⟨fl, hl1.to (h.blk hs h.rl (by simp) (fun h => Role.noConfusion (hT _ h))).1, hl2⟩, ⟨fr, hr1.to (h.blk hs h.rr (by simp) (fun h => Role.noConfusion (hT _ h))).1, hr2⟩,
    ownsRow_to h.trow fun g hg => (h.blk hs (h.rt g hg) (by simp) (fun h => Role.noConfusion (hT _ h))).1, ownsRow_to h.mrow fun g hg => (h.blk hs (h.rm g hg) (by simp) (fun h => Role.noConfusion (hT _ h))).1,
    (h.blk hs h.rS (by simp) (fun h => Role.noConfusion (hT _ h))).2, (h.blk hs h.rM (by simp) (fun h => Role.noConfusion (hT _ h))).2, (h.blk hs h.rv (by simp) (fun h => Role.noConfusion (hT _ h))).2, (h.blk hs h.rl (by simp) (fun h => Role.noConfusion (hT _ h))).2, (h.blk hs h.rr (by simp) (fun h => Role.noConfusion (hT _ h))).2, fun g hg => (h.blk hs (h.rc g hg) (by simp) (fun h => Role.noConfusion (hT _ h))).2, fun i g hi hg => (h.blk hs (h.rC i g hi hg) (by simp) (fun h => Role.noConfusion (hT _ h))).2,
    fun l g v hv hne hg => (h.blk hs (h.rW l g v hv hne hg) (by simp) (fun h => Role.noConfusion (hT _ h))).2, fun g hg => (h.blk hs (h.rt g hg) (by simp) (fun h => Role.noConfusion (hT _ h))).2, fun g hg => (h.blk hs (h.rm g hg) (by simp) (fun h => Role.noConfusion (hT _ h))).2, hs.lo (h := h.lo) hB, hs.inn⟩
  cases hw : wo l with
  | none =>
    rw [hw] at hg
    cases hg
  | some v =>
    rw [hw] at hg hne
    exact (h.blk hs (h.rW l g v hw hne hg) (by simp) (fun h => Role.noConfusion (hT _ h))).1
theorem SolIn.below (h : SolIn w B role S M gv gl gr vc vt vm head n cv wo wl cs tr mk) (hB : B ≤ w.heap.size) (hb : Below w.heap.size w w') : SolIn w' B role S M gv gl gr vc vt vm head n cv wo wl cs tr mk := h.keep (Step.of_below h.hi hb) (fun _ h => h.elim) hB

theorem of_c {l : Int} (hl : Lok n l) (hn : n ≤ 1000) (w : World) : Calls Try.prog 46 #[.int .i64 l] w fun e w' => e = .returned (.int .i64 (vr l : Int)) ∧ w' = w := by
  have h1 := hl.1
  have h2 := hl.2
  have hv : (vr l : Int) = if l < 0 then -l - 1 else l - 1 := by
    unfold vr
    split <;> omega
  rw [hv]
  clear hv
  by_cases h : l < 0
  · rw [if_pos h]
    have hb : -1000 ≤ l := by omega
    replace h1 := Lib.hid h1
    replace h2 := Lib.hid h2
    go_enter Try.func46, Try.ntmps46
    go_wp2_with fail
    go_ret
    exact ⟨rfl, rfl⟩
  · rw [if_neg h]
    have hb : l ≤ 1000 := by omega
    have hb0 : 0 < l := by omega
    replace h1 := Lib.hid h1
    replace h2 := Lib.hid h2
    go_enter Try.func46, Try.ntmps46
    go_wp2_with fail
    go_ret
    exact ⟨rfl, rfl⟩

set_option maxHeartbeats 1000000 in
set_option maxRecDepth 100000 in
theorem is_c (h : SolIn w B role S M gv gl gr vc vt vm head n cv wo wl cs tr mk) {l : Int} (hl : Lok n l) (hn : n ≤ 1000) :
    Calls Try.prog 31 #[.pointer (some ⟨S, 0, none⟩), .int .i64 l] w fun e w' => e = .returned (.int .i64 (isV tr l)) ∧ ∃ q, w' = w.drewN q := by
  have b2 := h.box.cell (j := 2) rfl
  have hvn := hl.lt
  have c0 := h.vals.cell hvn
  have HO := Lib.hid (fun w => of_c hl hn w)
  have hiv : isV tr l = if l < 0 then -(valOf tr (vr l)) else valOf tr (vr l) := rfl
  have hrange : -1 ≤ valOf tr (vr l) ∧ valOf tr (vr l) ≤ 1 := by
    unfold valOf
    split <;> (try split) <;> decide
  generalize isV tr l = r at hiv ⊢
  generalize valOf tr (vr l) = x at c0 hiv hrange
  generalize vr l = u at c0 HO hvn
  have hvn1 : (u : Int) < (n : Int) := by omega
  clear h
  obtain ⟨hr1, hr2⟩ := hrange
  by_cases hneg : l < 0
  · rw [if_pos hneg] at hiv
    subst hiv
    replace hl := Lib.hid hl
    go_enter Try.func31, Try.ntmps31
    go_upto_region 1 with fail
    go_quiet ((go_at_call 46; exact Calls.quiet_of_same ((HO.out _).mono fun _ _ h => ⟨h.1, h.2⟩)))
    go_wp2_with fail
    go_ret
    exact ⟨rfl, _, rfl⟩
  · rw [if_neg hneg] at hiv
    subst hiv
    replace hl := Lib.hid hl
    go_enter Try.func31, Try.ntmps31
    go_upto_region 1 with fail
    go_quiet ((go_at_call 46; exact Calls.quiet_of_same ((HO.out _).mono fun _ _ h => ⟨h.1, h.2⟩)))
    go_wp2_with fail
    go_ret
    exact ⟨rfl, _, rfl⟩
end
end Go.Proofs.Ytkeagjphddcjeaa
