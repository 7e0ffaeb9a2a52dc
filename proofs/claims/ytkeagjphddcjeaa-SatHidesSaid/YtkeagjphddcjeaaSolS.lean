/-
  Lit, Holds, All: the document's reading of values. Helper text; the conditions are those typed.
-/
import Derived.Test.YtkeagjphddcjeaaLawT
namespace Go.Proofs.Ytkeagjphddcjeaa
set_option linter.unusedVariables false
set_option linter.unusedSimpArgs false
open Go.RowKit Go.Maps Sat

theorem BoolsV.get {w : World} {u : Value} {n : Nat} {v : Asg} (h : BoolsV w u (bsOf n v)) : ∃ a c, u = .slice a n c ∧ n ≤ c ∧ ∀ i, i < n → ∃ b o, a = some ⟨b, o, none⟩ ∧ w.cell? ⟨b, o + i, none⟩ = some (.bool (v i)) := by
  obtain ⟨a, c, rfl, hc, h⟩ := h
  rw [bsOf_len] at hc
  refine ⟨a, c, by rw [bsOf_len], hc, fun i hi => ?_⟩
  rcases h with h | ⟨b, o, rfl, _, h3⟩
  · have := congrArg List.length h
    rw [bsOf_len] at this
    simp at this
    omega
  · have := h3 i (by rw [bsOf_len]; exact hi)
    rw [bsOf_get n v hi] at this
    exact ⟨b, o, rfl, this⟩
set_option maxHeartbeats 2000000 in
theorem lit_c {w : World} {u : Value} {n : Nat} {v : Asg} (hu : BoolsV w u (bsOf n v)) (hn : n ≤ 400) {x : Int} (hx : Lok n x) :
    Calls Try.prog 25 #[u, .int .i64 x] w fun e w' => e = .returned (.bool (litB v x)) ∧ w' = w := by
  obtain ⟨a, c, rfl, hc, hg⟩ := hu.get
  obtain ⟨r, hr⟩ : ∃ r, litB v x = r := ⟨_, rfl⟩
  rw [hr]
  have hx1 := hx.1
  have hx2 := hx.2
  by_cases h : x < 0
  · obtain ⟨i, hi⟩ : ∃ i : Nat, x = -((i + 1 : Nat) : Int) := ⟨(-x - 1).toNat, by omega⟩
    have hin : i < n := by omega
    obtain ⟨b, o, rfl, hcell⟩ := hg i hin
    have hv : (!v i) = r := by rw [← hr, hi, litB_down]
    obtain ⟨q, hq⟩ : ∃ q, v i = q := ⟨_, rfl⟩
    rw [hq] at hv hcell
    have hxi : x = -(i : Int) - 1 := by omega
    subst hv
    clear hr hi hx hx1 hx2 hg hq
    subst hxi
    have hc2 : w.cell? ⟨b, o + ((-(-(i : Int) - 1)).toNat - 1), none⟩ = some (.bool q) := by
      rw [show (-(-(i : Int) - 1)).toNat - 1 = i from by omega]
      exact hcell
    clear hcell
    go_enter Try.func25, Try.ntmps25
    go_wp2_with fail
    go_ret
    exact ⟨rfl, rfl⟩
  · obtain ⟨i, hi⟩ : ∃ i : Nat, x = ((i + 1 : Nat) : Int) := ⟨(x - 1).toNat, by omega⟩
    have hin : i < n := by omega
    obtain ⟨b, o, rfl, hcell⟩ := hg i hin
    have hv : v i = r := by rw [← hr, hi, litB_up]
    rw [hv] at hcell
    have hxi : x = (i : Int) + 1 := by omega
    clear hr hi hx hx1 hx2 hg hv
    subst hxi
    go_enter Try.func25, Try.ntmps25
    go_wp2_with fail
    go_ret
    exact ⟨rfl, rfl⟩
set_option maxHeartbeats 2000000 in
theorem holds_c {w : World} {u vc : Value} {n : Nat} {v : Asg} {c : List Int} (hu : BoolsV w u (bsOf n v)) (hn : n ≤ 400) (hc : IntsV w vc c) (hcl : c.length ≤ 9223372036854775807) (hx : ∀ x ∈ c, Lok n x) :
    Calls Try.prog 26 #[u, vc] w fun e w' => e = .returned (.bool (c.any (litB v))) ∧ w' = w := by
  have HLIT := Lib.hid (fun (x : Int) (h : x ∈ c) => lit_c hu hn (hx x h))
  obtain ⟨r, hr⟩ : ∃ r, c.any (litB v) = r := ⟨_, rfl⟩
  rw [hr]
  have HR := Lib.hid hr
  obtain ⟨a, cap, rfl, hcap, hints⟩ := hc
  obtain ⟨P, hP⟩ : ∃ P, c.length = P := ⟨_, rfl⟩
  have HIN : Hid (∀ k, k < P → ∃ b o x, a = some ⟨b, o, none⟩ ∧ c[k]? = some x ∧ w.cell? ⟨b, o + k, none⟩ = some (.int .i64 x)) := fun k hk => by
    have hk' : k < c.length := by omega
    rcases hints with h | ⟨b, o, h1, _, h3⟩
    · rw [h] at hk'; cases hk'
    · refine ⟨b, o, c[k], h1, List.getElem?_eq_getElem hk', ?_⟩
      have := h3 k hk'
      rw [List.getD, List.getElem?_eq_getElem hk'] at this
      exact this
  rw [hP] at hcap hcl ⊢
  have HP := Lib.hid hP
  clear hr hints hP hu hx
  go_enter Try.func26, Try.ntmps26
  go_wp2_with fail
  go_loopg [5] P (fun gk v5 wx => ∃ k : Nat, v5 = .int .i64 (k : Int) ∧ k ≤ P ∧ P ≤ k + gk ∧ wx = w ∧ Hid ((c.take k).any (litB v) = false))
  case atStart => exact ⟨0, rfl, by omega, by omega, rfl, rfl⟩
  case round =>
    obtain ⟨gJ, rfl⟩ : ∃ x : Nat, x = gk := ⟨_, rfl⟩
    obtain ⟨k, rfl, hkP, hkk, rfl, HN⟩ := hrel
    by_cases hk : k < P
    · have hk1 : (k : Int) < (P : Int) := by omega
      obtain ⟨b, o, x, hfa, hx, hcx⟩ := HIN.out k hk
      have HL2 := Lib.hid (HLIT.out x (List.mem_of_getElem? hx))
      have HS : Hid ((c.take (k + 1)).any (litB v) = litB v x) := by
        have hi := (List.getElem?_eq_some_iff.1 hx).1
        show (c.take (k + 1)).any (litB v) = litB v x
        rw [List.take_succ_eq_append_getElem hi, List.any_append, HN.out, (List.getElem?_eq_some_iff.1 hx).2]
        simp
      have HM : Hid (litB v x = true → c.any (litB v) = true) := fun h => List.any_eq_true.2 ⟨x, List.mem_of_getElem? hx, h⟩
      subst hfa
      clear hx
      obtain ⟨z, hz⟩ : ∃ z, litB v x = z := ⟨_, rfl⟩
      rw [hz] at HL2 HS HM
      clear hz
      cases z with
      | true =>
        have hr : r = true := by rw [← HR.out]; exact HM.out rfl
        subst hr
        go_wp2_with (go_at_call 25; refine HL2.out.mono ?_; rintro e w5 ⟨rfl, rfl⟩)
        go_ret
        exact ⟨rfl, rfl⟩
      | false =>
        go_wp2_with (go_at_call 25; refine HL2.out.mono ?_; rintro e w5 ⟨rfl, rfl⟩)
        go_roundg (gJ - 1)
        case measure => omega
        case rel => exact ⟨k + 1, by go_num, by omega, by omega, rfl, HS.out⟩
    · have hr : r = false := by
        rw [← HR.out, ← HN.out, List.take_of_length_le (by rw [HP.out]; omega)]
      subst hr
      go_wp2_with fail
      go_ret
      exact ⟨rfl, rfl⟩
def allB (v : Asg) (ls : List (List Int)) : Bool := ls.all fun c => c.any (litB v)
theorem allB_sat {v : Asg} {ls : List Cl} : allB v ls = true ↔ sat v ls := by
  unfold allB sat holds
  simp
set_option maxHeartbeats 2000000 in
theorem all_c {w : World} {u vl : Value} {n : Nat} {v : Asg} {ls : List (List Int)} (hu : BoolsV w u (bsOf n v)) (hn : n ≤ 400) (hl : RowsV w vl ls) (hll : ls.length ≤ 9223372036854775807) (hcl : ∀ c ∈ ls, c.length ≤ 9223372036854775807) (hx : ∀ c ∈ ls, ∀ x ∈ c, Lok n x) :
    Calls Try.prog 24 #[u, vl] w fun e w' => e = .returned (.bool (allB v ls)) ∧ w' = w := by
  have HH := Lib.hid (fun (c : List Int) (vc : Value) (hc : IntsV w vc c) (h : c ∈ ls) => holds_c hu hn hc (hcl c h) (hx c h))
  obtain ⟨r, hr⟩ : ∃ r, allB v ls = r := ⟨_, rfl⟩
  rw [hr]
  have HR := Lib.hid hr
  obtain ⟨a, cap, f, rfl, hcap, hcell, hrows⟩ := hl
  obtain ⟨P, hP⟩ : ∃ P, ls.length = P := ⟨_, rfl⟩
  have HIN : Hid (∀ k, k < P → ∃ b o c x m y, a = some ⟨b, o, none⟩ ∧ ls[k]? = some c ∧ w.cell? ⟨b, o + k, none⟩ = some (.slice x m y) ∧ IntsV w (.slice x m y) c) := fun k hk => by
    have hk' : k < ls.length := by omega
    rcases hcell with h | ⟨b, o, h1, _, h3⟩
    · rw [h] at hk'; cases hk'
    · have h4 := hrows k ls[k] (List.getElem?_eq_getElem hk')
      have h4' := h4
      obtain ⟨x, y, e, _, _⟩ := h4'
      have h5 := h3 k hk'
      rw [e] at h4 h5
      exact ⟨b, o, ls[k], x, _, y, h1, List.getElem?_eq_getElem hk', h5, h4⟩
  rw [hP] at hcap hll ⊢
  have HP := Lib.hid hP
  clear hr hcell hrows hP hu hx hcl
  go_enter Try.func24, Try.ntmps24
  go_wp2_with fail
  go_loopg [5] P (fun gk v5 wx => ∃ k : Nat, v5 = .int .i64 (k : Int) ∧ k ≤ P ∧ P ≤ k + gk ∧ wx = w ∧ Hid (allB v (ls.take k) = true))
  case atStart => exact ⟨0, rfl, by omega, by omega, rfl, rfl⟩
  case round =>
    obtain ⟨gJ, rfl⟩ : ∃ x : Nat, x = gk := ⟨_, rfl⟩
    obtain ⟨k, rfl, hkP, hkk, rfl, HN⟩ := hrel
    by_cases hk : k < P
    · have hk1 : (k : Int) < (P : Int) := by omega
      obtain ⟨b, o, c, x, m, y, hfa, hc, hcx, hiv⟩ := HIN.out k hk
      have HL2 := Lib.hid (HH.out c _ hiv (List.mem_of_getElem? hc))
      have HS : Hid (allB v (ls.take (k + 1)) = c.any (litB v)) := by
        have hi := (List.getElem?_eq_some_iff.1 hc).1
        show allB v (ls.take (k + 1)) = c.any (litB v)
        have h1 := HN.out
        unfold allB at h1 ⊢
        rw [List.take_succ_eq_append_getElem hi, List.all_append, h1, (List.getElem?_eq_some_iff.1 hc).2]
        simp
      have HM : Hid (c.any (litB v) = false → allB v ls = false) := fun h => by
        unfold allB
        exact List.all_eq_false.2 ⟨c, List.mem_of_getElem? hc, by rw [h]; simp⟩
      subst hfa
      clear hc hiv
      obtain ⟨z, hz⟩ : ∃ z, c.any (litB v) = z := ⟨_, rfl⟩
      rw [hz] at HL2 HS HM
      clear hz
      cases z with
      | false =>
        have hr : r = false := by rw [← HR.out]; exact HM.out rfl
        subst hr
        go_wp2_with (go_at_call 26; refine HL2.out.mono ?_; rintro e w5 ⟨rfl, rfl⟩)
        go_ret
        exact ⟨rfl, rfl⟩
      | true =>
        go_wp2_with (go_at_call 26; refine HL2.out.mono ?_; rintro e w5 ⟨rfl, rfl⟩)
        go_roundg (gJ - 1)
        case measure => omega
        case rel => exact ⟨k + 1, by go_num, by omega, by omega, rfl, HS.out⟩
    · have hr : r = true := by
        rw [← HR.out, ← HN.out, List.take_of_length_le (by rw [HP.out]; omega)]
      subst hr
      go_wp2_with fail
      go_ret
      exact ⟨rfl, rfl⟩
end Go.Proofs.Ytkeagjphddcjeaa
