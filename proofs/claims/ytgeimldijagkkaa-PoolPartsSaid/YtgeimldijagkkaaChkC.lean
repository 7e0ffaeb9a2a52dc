/-
  A package's architecture, vendor, files, asked for by the document's answer. Helper text; the conditions are those typed.
-/
import Derived.Test.YtgeimldijagkkaaChkB
namespace Go.Proofs.Ytgeimldijagkkaa
set_option linter.unusedVariables false
set_option linter.unusedSimpArgs false
open Go.RowKit Go.Maps

theorem small_ways (r : Nat) : (¬ (r : Int) < 97 ∧ ¬ 122 < (r : Int) ∧ smallR r = true) ∨ ((r : Int) < 97 ∧ ¬ (r : Int) < 48 ∧ ¬ 57 < (r : Int) ∧ smallR r = true) ∨ ((r : Int) < 97 ∧ ¬ (r : Int) < 48 ∧ 57 < (r : Int) ∧ ((r : Int) != 95) = false ∧ smallR r = true) ∨
    ((r : Int) < 97 ∧ (r : Int) < 48 ∧ ((r : Int) != 95) = true ∧ smallR r = false) ∨ ((r : Int) < 97 ∧ ¬ (r : Int) < 48 ∧ 57 < (r : Int) ∧ ((r : Int) != 95) = true ∧ smallR r = false) ∨ (¬ (r : Int) < 97 ∧ 122 < (r : Int) ∧ ¬ (r : Int) < 48 ∧ 57 < (r : Int) ∧ ((r : Int) != 95) = true ∧ smallR r = false) := by
  have e : ((r : Int) != 95) = !decide (r = 95) := by
    by_cases h : r = 95
    · subst h; rfl
    · rw [decide_eq_false h]
      have : ¬ (r : Int) = 95 := by omega
      simpa using this
  rw [e]
  unfold smallR
  by_cases h1 : 97 ≤ r
  · by_cases h2 : r ≤ 122
    · left; exact ⟨by omega, by omega, by simp [h1, h2]⟩
    · right; right; right; right; right
      have a1 : ¬ r ≤ 57 := by omega
      have a2 : ¬ r = 95 := by omega
      exact ⟨by omega, by omega, by omega, by omega, by simp [a2], by simp [h1, h2, a1, a2]⟩
  · by_cases h3 : 48 ≤ r
    · by_cases h4 : r ≤ 57
      · right; left; exact ⟨by omega, by omega, by omega, by simp [h3, h4]⟩
      · by_cases h5 : r = 95
        · right; right; left; exact ⟨by omega, by omega, by omega, by simp [h5], by simp [h5]⟩
        · right; right; right; right; left; exact ⟨by omega, by omega, by omega, by simp [h5], by simp [h1, h4, h5]⟩
    · right; right; right; left
      have a2 : ¬ r = 95 := by omega
      exact ⟨by omega, by omega, by simp [a2], by simp [h1, h3, a2]⟩
theorem shown_ways (r : Nat) : (¬ (r : Int) < 32 ∧ ¬ 126 < (r : Int) ∧ shownR r = true) ∨ ((r : Int) < 32 ∧ shownR r = false) ∨ (¬ (r : Int) < 32 ∧ 126 < (r : Int) ∧ shownR r = false) := by
  unfold shownR
  by_cases h1 : 32 ≤ r
  · by_cases h2 : r ≤ 126
    · left; exact ⟨by omega, by omega, by simp [h1, h2]⟩
    · right; right; exact ⟨by omega, by omega, by simp [h1, h2]⟩
  · right; left; exact ⟨by omega, by simp [h1]⟩

set_option maxHeartbeats 1000000 in
theorem rarch_c (s : ByteArray) (hs : s.size ≤ maxLen) (w : World) : Calls Try.prog 35 #[.string s] w fun e w' => e = .returned (.bool (allBy smallR s && (decide (1 ≤ (s.size : Int)) && decide ((s.size : Int) ≤ 20)))) ∧ w = w' := by
  unfold maxLen at hs
  obtain ⟨RES, hRES⟩ : ∃ RES, (allBy smallR s && (decide (1 ≤ (s.size : Int)) && decide ((s.size : Int) ≤ 20))) = RES := ⟨_, rfl⟩
  rw [hRES]
  replace hRES := Lib.hid hRES
  go_enter Try.func35, Try.ntmps35
  go_wp2_with fail
  go_loopw [3] (fun vi wr => ∃ k : Nat, k ≤ s.size ∧ vi = .int .i64 k ∧ w = wr ∧ Hid (∀ j (hj : j < s.size), j < k → smallR s[j].toNat = true)) (fun vi _ => s.size - (intOf vi).toNat)
  case atStart => exact ⟨0, Nat.zero_le _, rfl, rfl, fun j _ hj => absurd hj (Nat.not_lt_zero j)⟩
  case round =>
    obtain ⟨k, hk, rfl, rfl, HK⟩ := hrel
    by_cases hlt : k < s.size
    · have hlt' : (k : Int) < (s.size : Int) := by omega
      have H := small_ways s[k].toNat
      have hNO : smallR s[k].toNat = false → allBy smallR s = false := fun h => by
        unfold allBy
        rw [List.all_eq_false]
        have h2 : k < (bs s).length := by rw [bs_length]; exact hlt
        exact ⟨(bs s)[k], List.getElem_mem h2, by show ¬ smallR s[k].toNat = true; rw [h]; decide⟩
      have hOK : smallR s[k].toNat = true → ∀ j (hj : j < s.size), j < k + 1 → smallR s[j].toNat = true := fun h j hj hjk => by
        rcases Nat.lt_succ_iff_lt_or_eq.1 hjk with h1 | h1
        · exact HK.out j hj h1
        · subst h1; exact h
      replace hNO := Lib.hid hNO
      replace hOK := Lib.hid hOK
      generalize hx : smallR s[k].toNat = x at H hNO hOK
      clear hx
      rcases H with ⟨h1, h2, hx⟩ | ⟨h1, h2, h3, hx⟩ | ⟨h1, h2, h3, h4, hx⟩ | ⟨h1, h2, h3, hx⟩ | ⟨h1, h2, h3, h4, hx⟩ | ⟨h1, h2, h3, h4, h5, hx⟩
      · replace hx := Lib.hid (hOK.out hx)
        go_wp2_with fail
        go_roundw
        case rel => exact ⟨k + 1, by omega, by go_num, trivial, hx.out⟩
        case measure => simp [intOf]; omega
      · replace hx := Lib.hid (hOK.out hx)
        go_wp2_with fail
        go_roundw
        case rel => exact ⟨k + 1, by omega, by go_num, trivial, hx.out⟩
        case measure => simp [intOf]; omega
      · replace hx := Lib.hid (hOK.out hx)
        go_wp2_with fail
        go_roundw
        case rel => exact ⟨k + 1, by omega, by go_num, trivial, hx.out⟩
        case measure => simp [intOf]; omega
      · replace hx := Lib.hid (hNO.out hx)
        go_wp2_with fail
        go_ret
        exact ⟨by rw [← hRES.out, hx.out]; rfl, rfl⟩
      · replace hx := Lib.hid (hNO.out hx)
        go_wp2_with fail
        go_ret
        exact ⟨by rw [← hRES.out, hx.out]; rfl, rfl⟩
      · replace hx := Lib.hid (hNO.out hx)
        go_wp2_with fail
        go_ret
        exact ⟨by rw [← hRES.out, hx.out]; rfl, rfl⟩
    · have hge : ¬ (k : Int) < (s.size : Int) := by omega
      have hall : Hid (allBy smallR s = true) := by
        unfold Hid allBy
        rw [List.all_eq_true]
        intro y hy
        obtain ⟨j, hj, rfl⟩ := List.getElem_of_mem hy
        have hj' : j < s.size := by rw [← bs_length]; exact hj
        exact HK.out j hj' (by omega)
      by_cases s1 : 1 ≤ (s.size : Int)
      · by_cases s2 : (s.size : Int) ≤ 20
        · go_wp2_with fail
          go_ret
          exact ⟨by rw [← hRES.out, hall.out, decide_eq_true s1, decide_eq_true s2]; rfl, rfl⟩
        · go_wp2_with fail
          go_ret
          exact ⟨by rw [← hRES.out, hall.out, decide_eq_true s1, decide_eq_false (by omega)]; rfl, rfl⟩
      · go_wp2_with fail
        go_ret
        exact ⟨by rw [← hRES.out, hall.out, decide_eq_false (by omega)]; rfl, rfl⟩

set_option maxHeartbeats 1000000 in
theorem rshown_c (s : ByteArray) (hs : s.size ≤ maxLen) (w : World) : Calls Try.prog 36 #[.string s] w fun e w' => e = .returned (.bool (allBy shownR s)) ∧ w = w' := by
  unfold maxLen at hs
  go_enter Try.func36, Try.ntmps36
  go_wp2_with fail
  go_loopw [3] (fun vi wr => ∃ k : Nat, k ≤ s.size ∧ vi = .int .i64 k ∧ w = wr ∧ Hid (∀ j (hj : j < s.size), j < k → shownR s[j].toNat = true)) (fun vi _ => s.size - (intOf vi).toNat)
  case atStart => exact ⟨0, Nat.zero_le _, rfl, rfl, fun j _ hj => absurd hj (Nat.not_lt_zero j)⟩
  case round =>
    obtain ⟨k, hk, rfl, rfl, HK⟩ := hrel
    by_cases hlt : k < s.size
    · have hlt' : (k : Int) < (s.size : Int) := by omega
      have H := shown_ways s[k].toNat
      have hNO : shownR s[k].toNat = false → allBy shownR s = false := fun h => by
        unfold allBy
        rw [List.all_eq_false]
        have h2 : k < (bs s).length := by rw [bs_length]; exact hlt
        exact ⟨(bs s)[k], List.getElem_mem h2, by show ¬ shownR s[k].toNat = true; rw [h]; decide⟩
      have hOK : shownR s[k].toNat = true → ∀ j (hj : j < s.size), j < k + 1 → shownR s[j].toNat = true := fun h j hj hjk => by
        rcases Nat.lt_succ_iff_lt_or_eq.1 hjk with h1 | h1
        · exact HK.out j hj h1
        · subst h1; exact h
      replace hNO := Lib.hid hNO
      replace hOK := Lib.hid hOK
      generalize hx : shownR s[k].toNat = x at H hNO hOK
      clear hx
      rcases H with ⟨h1, h2, hx⟩ | ⟨h1, hx⟩ | ⟨h1, h2, hx⟩
      · replace hx := Lib.hid (hOK.out hx)
        go_wp2_with fail
        go_roundw
        case rel => exact ⟨k + 1, by omega, by go_num, trivial, hx.out⟩
        case measure => simp [intOf]; omega
      · replace hx := Lib.hid (hNO.out hx)
        go_wp2_with fail
        go_ret
        exact ⟨by rw [hx.out]; rfl, rfl⟩
      · replace hx := Lib.hid (hNO.out hx)
        go_wp2_with fail
        go_ret
        exact ⟨by rw [hx.out]; rfl, rfl⟩
    · have hge : ¬ (k : Int) < (s.size : Int) := by omega
      have hall : Hid (allBy shownR s = true) := by
        unfold Hid allBy
        rw [List.all_eq_true]
        intro y hy
        obtain ⟨j, hj, rfl⟩ := List.getElem_of_mem hy
        have hj' : j < s.size := by rw [← bs_length]; exact hj
        exact HK.out j hj' (by omega)
      go_wp2_with fail
      go_ret
      exact ⟨by rw [hall.out]; rfl, rfl⟩

/-- may the files be? -/
def filesB (l : List ByteArray) : Bool := decide (l.length ≤ 16) && l.all fileOk
set_option maxHeartbeats 1000000 in
theorem rfiles_c (l : List ByteArray) (a : Option Addr) (n c : Nat) (S : Nat → Prop) (w : World) (h : StrsV w S l (.slice a n c)) :
    Calls Try.prog 38 #[.slice a n c] w fun e w' => e = .returned (.bool (filesB l)) ∧ w = w' := by
  obtain ⟨a2, c2, he, hs, hn, hin⟩ := h
  obtain ⟨rfl, rfl, rfl⟩ : a = a2 ∧ n = l.length ∧ c = c2 := by injection he; exact ⟨‹_›, ‹_›, ‹_›⟩
  clear he
  obtain ⟨n, hln⟩ : ∃ n, l.length = n := ⟨_, rfl⟩
  have HIN : Hid (n ≠ 0 → ∃ b off, a = some ⟨b, off, none⟩ ∧ ∀ i (h : i < n), w.cell? ⟨b, off + i, none⟩ = some (.string (l[i]'(by omega)))) := fun h0 => by
    obtain ⟨b, off, e, _, hc⟩ := hin (fun e => h0 (by rw [← hln, e]; rfl))
    exact ⟨b, off, e, fun i hi => hc i (by omega)⟩
  have HNO : Hid (∀ i (h : i < n), fileOk (l[i]'(by omega)) = false → filesB l = false) := fun i hi hf => by
    have : l.all fileOk = false := by
      rw [List.all_eq_false]
      exact ⟨l[i], List.getElem_mem _, by rw [hf]; decide⟩
    unfold filesB
    rw [this, Bool.and_false]
  have HLONG : Hid (16 < (n : Int) → filesB l = false) := fun h => by
    unfold filesB
    rw [decide_eq_false (by omega)]
    rfl
  have HYES : Hid (¬ 16 < (n : Int) → (∀ i (h : i < n), fileOk (l[i]'(by omega)) = true) → filesB l = true) := fun h0 h => by
    have : l.all fileOk = true := by
      rw [List.all_eq_true]
      intro x hx
      obtain ⟨i, hi, rfl⟩ := List.getElem_of_mem hx
      exact h i (by omega)
    unfold filesB
    rw [this, decide_eq_true (by omega)]
    rfl
  generalize filesB l = RES at HNO HLONG HYES
  rw [hln] at hn
  rw [hln]
  have HLEN := Lib.hid hln
  clear hin hs
  go_enter Try.func38, Try.ntmps38
  by_cases h16 : 16 < (n : Int)
  · have hr := HLONG.out h16
    go_wp2_with fail
    go_ret
    exact ⟨by first | rfl | (rw [hr]; rfl), rfl⟩
  replace HYES := Lib.hid (HYES.out h16)
  go_wp2_with fail
  go_loopw [3] (fun vi wr => ∃ i : Nat, vi = .int .i64 i ∧ i ≤ n ∧ w = wr ∧ Hid (∀ j (h : j < n), j < i → fileOk (l[j]'(by have := HLEN.out; omega)) = true)) (fun vi _ => n - (intOf vi).toNat)
  case atStart => exact ⟨0, rfl, Nat.zero_le _, rfl, fun j h h0 => absurd h0 (Nat.not_lt_zero _)⟩
  case round =>
    obtain ⟨i, rfl, hin, rfl, HG⟩ := hrel
    by_cases hlt : i < n
    · have hi1 : (i : Int) < (n : Int) := by omega
      obtain ⟨b, off, rfl, hc⟩ := HIN.out (by omega)
      have q0 := hc i hlt
      have hNO := HNO.out i hlt
      have hil : i < l.length := by have := HLEN.out; omega
      have hOK : fileOk (l[i]'hil) = true → ∀ j (h : j < n), j < i + 1 → fileOk (l[j]'(by have := HLEN.out; omega)) = true := by
        intro h0 j h hj
        rcases Nat.lt_succ_iff_lt_or_eq.1 hj with h1 | h1
        · exact HG.out j h h1
        · subst h1; exact h0
      have hF := rname_c (l[i]'hil) w
      replace hOK := Lib.hid hOK
      replace hNO := Lib.hid hNO
      clear hc
      generalize l[i]'hil = s at hF q0 hOK hNO
      have H : (nameB s = false ∧ fileOk s = false) ∨ (nameB s = true ∧ ∃ h0 : 0 < s.size, (((s[0].toNat : Int) != 47) = true ∧ fileOk s = false ∨ ((s[0].toNat : Int) != 47) = false ∧ fileOk s = true)) := by
        unfold fileOk
        cases hb : nameB s with
        | false => left; exact ⟨rfl, rfl⟩
        | true =>
          right
          have h0 : 0 < s.size := by
            unfold nameB at hb
            simp only [Bool.and_eq_true, decide_eq_true_eq] at hb
            omega
          have hh : (bs s).head? = some s[0] := by
            have hl : 0 < (bs s).length := by rw [bs_length]; exact h0
            rw [List.head?_eq_getElem?, List.getElem?_eq_getElem hl]
            rfl
          refine ⟨rfl, h0, ?_⟩
          rw [hh]
          by_cases hc : s[0] = 47
          · right
            rw [hc]
            exact ⟨rfl, rfl⟩
          · left
            have h1 := u8_ne.1 hc
            refine ⟨?_, by simpa using hc⟩
            have : ¬ (s[0].toNat : Int) = 47 := by simpa using h1
            simpa using this
      obtain ⟨fx, hfx⟩ : ∃ fx, fileOk s = fx := ⟨_, rfl⟩
      rw [hfx] at hOK hNO H
      clear hfx
      replace hF := Lib.hid hF
      rcases H with ⟨h1, hx⟩ | ⟨h1, h0, ⟨h2, hx⟩ | ⟨h2, hx⟩⟩
      · rw [h1] at hF
        replace hx := Lib.hid (hNO.out hx)
        go_wp2_with fail
        refine hF.out.mono ?_
        rintro e w2 ⟨rfl, rfl⟩
        go_wp2_with fail
        go_ret
        exact ⟨by rw [hx.out]; rfl, rfl⟩
      · rw [h1] at hF
        replace hx := Lib.hid (hNO.out hx)
        have h0' : 0 < (s.size : Int) := by omega
        go_wp2_with fail
        refine hF.out.mono ?_
        rintro e w2 ⟨rfl, rfl⟩
        go_wp2_with fail
        go_ret
        exact ⟨by rw [hx.out]; rfl, rfl⟩
      · rw [h1] at hF
        replace hx := Lib.hid (hOK.out hx)
        have h0' : 0 < (s.size : Int) := by omega
        go_wp2_with fail
        refine hF.out.mono ?_
        rintro e w2 ⟨rfl, rfl⟩
        go_wp2_with fail
        go_roundw
        case rel => exact ⟨i + 1, by go_num, by omega, trivial, hx.out⟩
        case measure => simp [intOf]; omega
    · have hi1 : ¬ (i : Int) < (n : Int) := by omega
      have hR := Lib.hid (HYES.out fun j h => HG.out j h (by omega))
      go_wp2_with fail
      go_ret
      exact ⟨by rw [hR.out]; rfl, rfl⟩
end Go.Proofs.Ytgeimldijagkkaa
