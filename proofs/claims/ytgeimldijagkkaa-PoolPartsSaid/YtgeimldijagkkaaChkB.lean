/-
  A package's files, asked for. Helper text; the conditions are those typed.
-/
import Derived.Test.YtgeimldijagkkaaChkA
namespace Go.Proofs.Ytgeimldijagkkaa
set_option linter.unusedVariables false
set_option linter.unusedSimpArgs false
open Go.RowKit Go.Maps

/-- may a file be? -/
def fileOk (s : ByteArray) : Bool := nameB s && ((bs s).head? == some 47)
theorem prefix_head (s : ByteArray) : Lib.hasPrefix s.data.toList [47] = ((bs s).head? == some 47) := by
  unfold Lib.hasPrefix
  show List.isPrefixOf [47] (bs s) = _
  cases bs s with
  | nil => rfl
  | cons c l =>
    simp only [List.isPrefixOf, Bool.and_true, List.head?_cons]
    by_cases h : c = 47
    · subst h; rfl
    · have h' : ¬ (47 : UInt8) = c := fun e => h e.symm
      have e1 : (47 == c) = false := by simpa using h'
      have e2 : (some c == some (47 : UInt8)) = false := by simpa using h
      rw [e1, e2]

set_option maxHeartbeats 1000000 in
/-- The closure: is a file wrong? -/
theorem file_c (s : ByteArray) (w : World) : Calls Try.prog 31 #[.string s] w fun e w' => e = .returned (.bool (!fileOk s)) ∧ Below w.heap.size w w' := by
  have hP : Calls Try.prog 32 #[.string s, .string ⟨#[47]⟩] w fun e w' => e = .returned (.bool ((bs s).head? == some 47)) ∧ w' = w := by
    rw [← prefix_head]
    exact Any.strings_HasPrefix Try.layPrefix s ⟨#[47]⟩ w
  have hN := name_c s
  have HR : Hid (fileOk s = (nameB s && ((bs s).head? == some 47))) := rfl
  generalize ((bs s).head? == some 47) = x at hP HR
  generalize nameB s = y at hN HR
  replace hP := Lib.hid hP
  replace hN := Lib.hid hN
  go_enter Try.func31, Try.ntmps31
  go_wp2_with fail
  refine hP.out.mono ?_
  rintro e w' ⟨rfl, rfl⟩
  cases x with
  | false =>
    go_wp2_with fail
    go_ret
    exact ⟨by rw [HR.out]; cases y <;> rfl, Below.refl _ _⟩
  | true =>
    go_wp2_with fail
    refine (hN.out _).mono ?_
    rintro e w2 ⟨rfl, hb⟩
    replace hb := Lib.hid hb
    go_wp2_with fail
    go_ret
    exact ⟨by rw [HR.out]; cases y <;> rfl, hb.out⟩

set_option maxHeartbeats 1000000 in
theorem filesI_c (l : List ByteArray) (v : Value) (S : Nat → Prop) (w : World) (h : StrsV w S l v) :
    Calls Try.prog 59 #[v, .func (.func 31) #[] #[]] w fun e w' => (∃ I : Int, e = .returned (.int .i64 I) ∧ decide (0 ≤ I) = !l.all fileOk) ∧ Below w.heap.size w w' := by
  obtain ⟨a, c, rfl, hs, hn, hin⟩ := h
  obtain ⟨n, hln⟩ : ∃ n, l.length = n := ⟨_, rfl⟩
  have HIN : Hid (n ≠ 0 → ∃ b off, a = some ⟨b, off, none⟩ ∧ ∀ i (h : i < n), w.cell? ⟨b, off + i, none⟩ = some (.string (l[i]'(by omega)))) := fun h0 => by
    obtain ⟨b, off, e, _, hc⟩ := hin (fun e => h0 (by rw [← hln, e]; rfl))
    exact ⟨b, off, e, fun i hi => hc i (by omega)⟩
  have HNO : Hid (∀ i (h : i < n), fileOk (l[i]'(by omega)) = false → (!l.all fileOk) = true) := fun i hi hf => by
    have : l.all fileOk = false := by
      rw [List.all_eq_false]
      exact ⟨l[i], List.getElem_mem _, by rw [hf]; decide⟩
    rw [this]; rfl
  have HYES : Hid ((∀ i (h : i < n), fileOk (l[i]'(by omega)) = true) → (!l.all fileOk) = false) := fun h => by
    have : l.all fileOk = true := by
      rw [List.all_eq_true]
      intro x hx
      obtain ⟨i, hi, rfl⟩ := List.getElem_of_mem hx
      exact h i (by omega)
    rw [this]; rfl
  generalize (!l.all fileOk) = RES at HNO HYES
  rw [hln]
  have HLEN := Lib.hid hln
  rw [hln] at hn
  clear hin hs
  go_enter Try.func59, Try.ntmps59
  go_wp2_with fail
  go_loopw [8] (fun vi wr => ∃ i : Nat, vi = .int .i64 i ∧ i ≤ n ∧ Hid (∀ j (h : j < n), j < i → fileOk (l[j]'(by have := HLEN.out; omega)) = true) ∧ Hid (Below w.heap.size w wr)) (fun vi _ => n - (intOf vi).toNat)
  case atStart => exact ⟨0, rfl, Nat.zero_le _, fun j h h0 => absurd h0 (Nat.not_lt_zero _), Below.refl _ _⟩
  case round =>
    obtain ⟨i, rfl, hin, HG, HT⟩ := hrel
    by_cases hlt : i < n
    · have hi1 : (i : Int) < (n : Int) := by omega
      obtain ⟨b, off, rfl, hc⟩ := HIN.out (by omega)
      have hci := hc i hlt
      have hNO := HNO.out i hlt
      have hil : i < l.length := by have := HLEN.out; omega
      have hOK : fileOk (l[i]'hil) = true → ∀ j (h : j < n), j < i + 1 → fileOk (l[j]'(by have := HLEN.out; omega)) = true := by
        intro h0 j h hj
        rcases Nat.lt_succ_iff_lt_or_eq.1 hj with h1 | h1
        · exact HG.out j h h1
        · subst h1; exact h0
      have hF := file_c (l[i]'hil)
      replace hOK := Lib.hid hOK
      replace hNO := Lib.hid hNO
      replace hF := Lib.hid hF
      have q0 : wr.cell? ⟨b, off + i, none⟩ = some (.string (l[i]'hil)) := (HT.out.cell (p := ⟨b, off + i, none⟩) (World.block_lt_of_cell? w _ hci)).trans hci
      clear hci hc
      generalize l[i]'hil = s at hF q0 hOK hNO
      obtain ⟨fx, hfx⟩ : ∃ fx, fileOk s = fx := ⟨_, rfl⟩
      rw [hfx] at hF hOK hNO
      clear hfx
      cases fx with
      | false =>
        go_wp2_with fail
        refine (hF.out wr).mono ?_
        rintro e w2 ⟨rfl, hb2⟩
        replace hb2 := Lib.hid (below_tr HT.out hb2)
        go_wp2_with fail
        go_ret
        refine ⟨⟨i, rfl, ?_⟩, hb2.out⟩
        have h1 := hNO.out trivial
        rw [h1]
        exact decide_eq_true (by omega)
      | true =>
        go_wp2_with fail
        refine (hF.out wr).mono ?_
        rintro e w2 ⟨rfl, hb2⟩
        replace hb2 := Lib.hid (below_tr HT.out hb2)
        go_wp2_with fail
        go_roundw
        case rel => exact ⟨i + 1, by go_num, by omega, hOK.out trivial, hb2.out⟩
        case measure => simp [intOf]; omega
    · have hi1 : ¬ (i : Int) < (n : Int) := by omega
      have hR := HYES.out fun j h => HG.out j h (by omega)
      go_wp2_with fail
      go_ret
      exact ⟨⟨-1, rfl, by decide⟩, HT.out⟩

set_option maxHeartbeats 1000000 in
theorem filesA_c (l : List ByteArray) (a : Option Addr) (n c : Nat) (S : Nat → Prop) (w : World) (h : StrsV w S l (.slice a n c)) :
    Calls Try.prog 30 #[.slice a n c, .func (.func 31) #[] #[]] w fun e w' => e = .returned (.bool (!l.all fileOk)) ∧ Below w.heap.size w w' := by
  have hF := Lib.hid (filesI_c l _ S w h)
  generalize (!l.all fileOk) = RES at hF
  clear h
  go_enter Try.func30, Try.ntmps30
  go_wp2_with fail
  refine hF.out.mono ?_
  rintro e w2 ⟨⟨I, rfl, hI⟩, hb2⟩
  replace hb2 := Lib.hid hb2
  replace hI := Lib.hid hI
  go_wp2_with fail
  go_ret
  exact ⟨by rw [← hI.out]; rfl, hb2.out⟩
end Go.Proofs.Ytgeimldijagkkaa
