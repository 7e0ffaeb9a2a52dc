/-
  A chain: each variable asks the next one. Plain; no program in sight.
-/
import Derived.Test.YtkeagjphddcjeaaSatPig
namespace Go.Proofs.Ytkeagjphddcjeaa
set_option linter.unusedVariables false
set_option linter.unusedSimpArgs false
namespace Sat
def chC (i : Nat) : Cl := [-((i + 1 : Nat) : Int), ((i + 2 : Nat) : Int)]
def chA : Nat → List Cl
  | 0 => [[1]]
  | i + 1 => chA i ++ [chC i]
theorem chA_len : ∀ k, (chA k).length = k + 1
  | 0 => rfl
  | k + 1 => by
    show (chA k ++ _).length = _
    simp [chA_len k]
theorem chA_mem {c : Cl} : ∀ {k : Nat}, c ∈ chA k ↔ c = [1] ∨ ∃ i, i < k ∧ c = chC i
  | 0 => by simp [chA]
  | k + 1 => by
    show c ∈ chA k ++ _ ↔ _
    rw [List.mem_append, chA_mem, List.mem_singleton]
    constructor
    · rintro ((h | ⟨i, h1, h2⟩) | h)
      · exact .inl h
      · exact .inr ⟨i, by omega, h2⟩
      · exact .inr ⟨k, by omega, h⟩
    · rintro (h | ⟨i, h1, h2⟩)
      · exact .inl (.inl h)
      · by_cases e : i = k
        · subst e; exact .inr h2
        · exact .inl (.inr ⟨i, by omega, h2⟩)
theorem ch_true {n : Nat} {ls : List Cl} (h1 : [1] ∈ ls) (hs : ∀ i, i + 1 < n → chC i ∈ ls) {v : Asg} (hv : sat v ls) : ∀ u, u < n → v u = true
  | 0, _ => by
    obtain ⟨l, hl, hb⟩ := hv _ h1
    rw [List.mem_singleton.1 hl] at hb
    rw [← litB_up v 0]
    exact hb
  | u + 1, h => by
    have ih := ch_true h1 hs hv u (by omega)
    obtain ⟨l, hl, hb⟩ := hv _ (hs u h)
    unfold chC at hl
    simp only [List.mem_cons, List.not_mem_nil, or_false] at hl
    rcases hl with rfl | rfl
    · rw [litB_down, ih] at hb; cases hb
    · rw [litB_up] at hb; exact hb
theorem ch_sat (n k : Nat) : sat (fun _ => true) (chA k) := fun c hc => by
  rcases chA_mem.1 hc with rfl | ⟨i, _, rfl⟩
  · exact ⟨1, by simp, rfl⟩
  · exact ⟨((i + 2 : Nat) : Int), by simp [chC], by rw [litB_up]⟩
theorem vr_up (m : Nat) : vr ((m + 1 : Nat) : Int) = m := by
  unfold vr
  rw [Int.natAbs_natCast]
  rfl
theorem ch_full {n : Nat} {ls : List Cl} (h1 : [1] ∈ ls) (hs : ∀ i, i + 1 < n → chC i ∈ ls) {gs : List Int} {cs : List Cl} {tr : List En} {sg : List Int} (ht : Tr n ls gs cs tr []) (hc : Cs n ls cs) (hw : Wat cs tr tr.length) (hcov : Cov ls cs sg) (hg : Sgl sg tr) :
    ∀ u, u < n → ∃ q : Nat, At tr q ((u + 1 : Nat) : Int)
  | 0, _ => by
    rcases hcov _ h1 with ⟨x, hx, hx2⟩ | ⟨x, hx, hx2⟩ | ⟨c', hc', hx⟩
    · have e1 := List.mem_singleton.1 (mem_norm.1 hx)
      have e2 := List.mem_singleton.1 (mem_norm.1 hx2)
      omega
    · have e1 : x = 1 := List.mem_singleton.1 (mem_norm.1 (by rw [hx]; exact List.mem_singleton.2 rfl : x ∈ norm [1]))
      subst e1
      obtain ⟨q, e, h3, h4, _⟩ := hg _ hx2
      exact ⟨q, e, h3, h4⟩
    · exfalso
      have h2 := hc.two c' hc'
      have h3 := hc.one c' hc'
      match c', h2, h3, hx with
      | a :: b :: t, _, h3, hx =>
        have e1 := List.mem_singleton.1 (mem_norm.1 (hx a (by simp)))
        have e2 := List.mem_singleton.1 (mem_norm.1 (hx b (by simp)))
        subst e1 e2
        simp at h3
  | u + 1, h => by
    obtain ⟨q, e, he, hl⟩ := ch_full h1 hs ht hc hw hcov hg u (by omega)
    have hm : ∀ x, x ∈ norm (chC u) ↔ x = -((u + 1 : Nat) : Int) ∨ x = ((u + 2 : Nat) : Int) := fun x => by
      rw [mem_norm]
      unfold chC
      simp
    rcases hcov _ (hs u h) with ⟨x, hx, hx2⟩ | ⟨x, hx, hx2⟩ | ⟨c', hc', hx⟩
    · have e1 := (hm _).1 hx
      have e2 := (hm _).1 hx2
      omega
    · have e1 := (hm _).2 (.inl rfl)
      have e2 := (hm _).2 (.inr rfl)
      rw [hx] at e1 e2
      have e3 := List.mem_singleton.1 e1
      have e4 := List.mem_singleton.1 e2
      omega
    · have h2 := hc.two c' hc'
      have h3 := hc.one c' hc'
      match c', h2, h3, hx, hc' with
      | a :: b :: t, _, h3, hx, hc' =>
        have e1 := (hm _).1 (hx a (by simp))
        have e2 := (hm _).1 (hx b (by simp))
        have hne : vr a ≠ vr b := fun e => by
          simp only [List.map_cons, List.nodup_cons, List.mem_cons, not_or] at h3
          exact h3.1.1 e
        have hq : q < tr.length := (List.getElem?_eq_some_iff.1 he).1
        obtain ⟨hw1, hw2⟩ := hw _ hc' a b t rfl
        rcases e1 with rfl | rfl
        · rcases e2 with rfl | rfl
          · exact absurd rfl hne
          · obtain ⟨q', e', h5, h6, _⟩ := hw1 q e hq he (by rw [hl, Int.neg_neg])
            exact ⟨q', e', h5, h6⟩
        · rcases e2 with rfl | rfl
          · obtain ⟨q', e', h5, h6, _⟩ := hw2 q e hq he (by rw [hl, Int.neg_neg])
            exact ⟨q', e', h5, h6⟩
          · exact absurd rfl hne
theorem ch_all {n : Nat} {ls : List Cl} (h1 : [1] ∈ ls) (hs : ∀ i, i + 1 < n → chC i ∈ ls) {gs : List Int} {cs : List Cl} {tr : List En} {sg : List Int} (ht : Tr n ls gs cs tr []) (hc : Cs n ls cs) (hw : Wat cs tr tr.length) (hcov : Cov ls cs sg) (hg : Sgl sg tr) : Full n tr := fun u hu => by
  obtain ⟨q, e, he, hl⟩ := ch_full h1 hs ht hc hw hcov hg u hu
  exact ⟨q, e, he, by rw [hl, vr_up]⟩
theorem ch_lok {n : Nat} (hn : 1 ≤ n) : ∀ c ∈ chA (n - 1), ∀ x ∈ c, Lok n x := fun c hc x hx => by
  rcases chA_mem.1 hc with rfl | ⟨i, hi, rfl⟩
  · rw [List.mem_singleton.1 hx]
    unfold Lok
    omega
  · unfold chC at hx
    simp only [List.mem_cons, List.not_mem_nil, or_false] at hx
    unfold Lok
    omega
theorem ch_short {k : Nat} : ∀ c ∈ chA k, c.length ≤ 2 := fun c hc => by
  rcases chA_mem.1 hc with rfl | ⟨i, hi, rfl⟩
  · simp
  · simp [chC]
end Sat
end Go.Proofs.Ytkeagjphddcjeaa
