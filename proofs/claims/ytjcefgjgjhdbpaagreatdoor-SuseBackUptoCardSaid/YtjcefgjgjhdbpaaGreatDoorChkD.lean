/-
  The runes of a text, asked for: pool.Check's closures. Helper text; the conditions are those typed.
  A package's files, asked for. Helper text; the conditions are those typed.
  A package's architecture, vendor, files, asked for by the document's answer. Helper text; the conditions are those typed.
  pool.Check and the document's: the contracts. Helper text; the conditions are those typed.
-/
import Derived.Test.YtjcefgjgjhdbpaaGreatDoorPoolRDeps
import Derived.Shelf.GgClosure.StringsIndexFuncTop
import Derived.Laws.RangeAny
namespace Go.Proofs.YtjcefgjgjhdbpaaGreatDoor
set_option linter.unusedVariables false
set_option linter.unusedSimpArgs false
open Go.RowKit Go.Maps

def smallR (r : Nat) : Bool := (decide (97 ≤ r) && decide (r ≤ 122)) || (decide (48 ≤ r) && decide (r ≤ 57)) || decide (r = 95)
def shownR (r : Nat) : Bool := decide (32 ≤ r) && decide (r ≤ 126)
theorem smallR_lt {r : Nat} (h : smallR r = true) : r < 128 := by
  unfold smallR at h
  simp only [Bool.or_eq_true, Bool.and_eq_true, decide_eq_true_eq] at h
  omega
theorem shownR_lt {r : Nat} (h : shownR r = true) : r < 128 := by
  unfold shownR at h
  simp only [Bool.and_eq_true, decide_eq_true_eq] at h
  omega

theorem small_at (w : World) : PredAt Tryz.prog 61 #[] encR smallR w := fun W r _ => by
  unfold FnGives
  have H : (¬ 97 ≤ (r : Int) ∧ (¬ 48 ≤ (r : Int) ∧ ((r : Int) == 95) = false ∧ smallR r = false ∨ 48 ≤ (r : Int) ∧ (r : Int) ≤ 57 ∧ smallR r = true ∨ 48 ≤ (r : Int) ∧ ¬ (r : Int) ≤ 57 ∧ (((r : Int) == 95) = smallR r))) ∨ (97 ≤ (r : Int) ∧ (r : Int) ≤ 122 ∧ smallR r = true) ∨ (97 ≤ (r : Int) ∧ ¬ (r : Int) ≤ 122 ∧ 48 ≤ (r : Int) ∧ ¬ (r : Int) ≤ 57 ∧ ((r : Int) == 95) = false ∧ smallR r = false) := by
    have e : ((r : Int) == 95) = decide (r = 95) := by
      by_cases h : r = 95
      · subst h; rfl
      · rw [decide_eq_false h]
        have : ¬ (r : Int) = 95 := by omega
        simpa using this
    rw [e]
    unfold smallR
    by_cases h1 : 97 ≤ r
    · by_cases h2 : r ≤ 122
      · right; left
        exact ⟨by omega, by omega, by simp [h1, h2]⟩
      · right; right
        refine ⟨by omega, by omega, by omega, by omega, ?_, ?_⟩
        · exact decide_eq_false (by omega)
        · have a1 : ¬ r ≤ 57 := by omega
          have a2 : ¬ r = 95 := by omega
          simp [h1, h2, a1, a2]
    · left
      refine ⟨by omega, ?_⟩
      by_cases h3 : 48 ≤ r
      · right
        by_cases h4 : r ≤ 57
        · left; exact ⟨by omega, by omega, by simp [h3, h4]⟩
        · right; exact ⟨by omega, by omega, by simp [h1, h3, h4]⟩
      · left
        have a2 : ¬ r = 95 := by omega
        exact ⟨by omega, decide_eq_false a2, by simp [h1, h3, a2]⟩
  generalize smallR r = x at H
  rcases H with ⟨h1, ⟨h2, h3, rfl⟩ | ⟨h2, h3, rfl⟩ | ⟨h2, h3, rfl⟩⟩ | ⟨h1, h2, rfl⟩ | ⟨h1, h2, h3, h4, h5, rfl⟩
  all_goals
    go_enter Tryz.func61, Tryz.ntmps61
    go_wp2_with fail
    go_ret
    exact ⟨rfl, 0, rfl⟩
theorem shown_at (w : World) : PredAt Tryz.prog 62 #[] encR shownR w := fun W r _ => by
  unfold FnGives
  have H : (¬ 32 ≤ (r : Int) ∧ shownR r = false) ∨ (32 ≤ (r : Int) ∧ (r : Int) ≤ 126 ∧ shownR r = true) ∨ (32 ≤ (r : Int) ∧ ¬ (r : Int) ≤ 126 ∧ shownR r = false) := by
    unfold shownR
    by_cases h1 : 32 ≤ r
    · right
      by_cases h2 : r ≤ 126
      · left; exact ⟨by omega, by omega, by simp [h1, h2]⟩
      · right; exact ⟨by omega, by omega, by simp [h1, h2]⟩
    · left; exact ⟨by omega, by simp [h1]⟩
  generalize shownR r = x at H
  rcases H with ⟨h1, rfl⟩ | ⟨h1, h2, rfl⟩ | ⟨h1, h2, rfl⟩
  all_goals
    go_enter Tryz.func62, Tryz.ntmps62
    go_wp2_with fail
    go_ret
    exact ⟨rfl, 0, rfl⟩

theorem enters22 : ∀ args w, (callFunc 61 args).run Tryz.prog w = .ok (.enter 61 args) w := fun args w => by kernel_rfl
theorem enters23 : ∀ args w, (callFunc 62 args).run Tryz.prog w = .ok (.enter 62 args) w := fun args w => by kernel_rfl
theorem enters26 : ∀ args w, (callFunc 65 args).run Tryz.prog w = .ok (.enter 65 args) w := fun args w => by kernel_rfl
theorem enters24 : ∀ args w, (callFunc 63 args).run Tryz.prog w = .ok (.enter 63 args) w := fun args w => by kernel_rfl
theorem enters31 : ∀ args w, (callFunc 70 args).run Tryz.prog w = .ok (.enter 70 args) w := fun args w => by kernel_rfl

theorem not_at (g : Nat) (eg : ∀ args w, (callFunc g args).run Tryz.prog w = .ok (.enter g args) w) (p : Nat → Bool) (w : World) (hp : PredAt Tryz.prog g #[] encR p w) (b : Nat) (hb : b < w.heap.size) (hc : w.cell? ⟨b, 0, none⟩ = some (.func (.func g) #[] #[])) :
    PredAt Tryz.prog 65 #[.pointer (some ⟨b, 0, none⟩)] encR (fun r => !p r) w := fun W r hB => by
  have hc' : W.cell? ⟨b, 0, none⟩ = some (.func (.func g) #[] #[]) := (hB.cell (p := ⟨b, 0, none⟩) hb).trans hc
  have HP := Lib.hid (hp W r hB)
  clear hp hc hB hb
  unfold FnGives
  go_enter Tryz.func65, Tryz.ntmps65
  go_wp2_with (go_at_fn g; refine HP.out.mono ?_; rintro e w' ⟨rfl, q, rfl⟩)
  go_ret
  exact ⟨rfl, q, rfl⟩

set_option maxHeartbeats 1000000 in
theorem within_c (g : Nat) (eg : ∀ args w, (callFunc g args).run Tryz.prog w = .ok (.enter g args) w) (p : Nat → Bool) (hp : ∀ w, PredAt Tryz.prog g #[] encR p w) (s : ByteArray) (m : Int) (w : World) :
    Calls Tryz.prog 63 #[.string s, .int .i64 m, .func (.func g) #[] #[]] w fun e w' => e = .returned (.bool (decide ((s.size : Int) ≤ m) && decide (Lib.idxFunc (fun r => !p r) true s < 0))) ∧ Below w.heap.size w w' := by
  obtain ⟨w1, e1⟩ : ∃ w1, w.alloc (.cells #[.func (.func g) #[] #[]] 93) = w1 := ⟨_, rfl⟩
  have hI : Hid (Calls Tryz.prog 64 #[.string s, .func (.func 65) #[] #[.pointer (some ⟨w.heap.size, 0, none⟩)]] w1 fun e w' => e = .returned (.int .i64 (Lib.idxFunc (fun r => !p r) true s)) ∧ Below w1.heap.size w1 w') := by
    refine Any.strings_IndexFunc Tryz.layIdxF 65 _ enters26 _ s w1 (not_at g eg p w1 (hp w1) w.heap.size ?_ ?_)
    · rw [← e1]; simp
    · rw [← e1]; simp
  have hB : Hid (Below w.heap.size w w1) := by rw [← e1]; exact below1 _ _
  obtain ⟨I, hI0⟩ : ∃ I, Lib.idxFunc (fun r => !p r) true s = I := ⟨_, rfl⟩
  rw [hI0] at hI ⊢
  replace hI0 := Lib.hid hI0
  go_enter Tryz.func63, Tryz.ntmps63
  by_cases hm : (s.size : Int) ≤ m
  · by_cases h0 : I < 0
    · go_wp2_with fail
      refine hI.out.mono ?_
      rintro e w2 ⟨rfl, hb2⟩
      replace hb2 := Lib.hid (below_tr hB.out hb2)
      go_wp2_with fail
      go_ret
      exact ⟨by simp only [hm, h0]; rfl, hb2.out⟩
    · go_wp2_with fail
      refine hI.out.mono ?_
      rintro e w2 ⟨rfl, hb2⟩
      replace hb2 := Lib.hid (below_tr hB.out hb2)
      go_wp2_with fail
      go_ret
      exact ⟨by simp only [hm, h0]; rfl, hb2.out⟩
  · go_wp2_with fail
    go_ret
    exact ⟨by rw [decide_eq_false (by omega)]; rfl, hB.out⟩

/-- Every byte is asked for. -/
def allBy (p : Nat → Bool) (s : ByteArray) : Bool := (bs s).all fun b => p b.toNat
theorem idx_all (p : Nat → Bool) (hp : ∀ r, p r = true → r < 128) (s : ByteArray) : ∀ (f pos : Nat), s.size ≤ pos + f → (Lib.idxFuncFrom (fun r => !p r) true s f pos < 0 ↔ ∀ i (h : i < s.size), pos ≤ i → p s[i].toNat = true)
  | 0, pos, hf => by
    refine ⟨fun _ i h hi => by omega, fun _ => by show (-1 : Int) < 0; decide⟩
  | f + 1, pos, hf => by
    unfold Lib.idxFuncFrom
    by_cases hpos : pos < s.size
    · rw [if_pos hpos]
      by_cases ha : (s[pos]'hpos).toNat < 128
      · rw [decode_ascii s pos hpos ha]
        cases hq : p (s[pos]'hpos).toNat with
        | false =>
          simp only [Bool.not_false, if_true]
          refine ⟨fun h => absurd h (by omega), fun h => ?_⟩
          have := h pos hpos (Nat.le_refl _)
          rw [hq] at this; cases this
        | true =>
          simp only [hq, Bool.not_true, if_false, Bool.false_eq_true]
          rw [idx_all p hp s f (pos + 1) (by omega)]
          refine ⟨fun h i hi hle => ?_, fun h i hi hle => h i hi (by omega)⟩
          rcases Nat.eq_or_lt_of_le hle with e | e
          · subst e; exact hq
          · exact h i hi e
      · have hd := (decode_high s pos hpos (by omega)).1
        have hn : p (Utf8.decode s pos).1 = false := by
          cases h : p (Utf8.decode s pos).1 with
          | false => rfl
          | true => have := hp _ h; omega
        rw [hn]
        simp only [Bool.not_false, if_true]
        refine ⟨fun h => absurd h (by omega), fun h => ?_⟩
        have := hp _ (h pos hpos (Nat.le_refl _))
        omega
    · rw [if_neg hpos]
      exact ⟨fun _ i h hi => by omega, fun _ => by decide⟩
theorem idx_by (p : Nat → Bool) (hp : ∀ r, p r = true → r < 128) (s : ByteArray) : decide (Lib.idxFunc (fun r => !p r) true s < 0) = allBy p s := by
  unfold Lib.idxFunc allBy
  rw [Bool.eq_iff_iff, decide_eq_true_eq, idx_all p hp s s.size 0 (by omega), List.all_eq_true]
  constructor
  · intro h x hx
    obtain ⟨i, hi, rfl⟩ := List.getElem_of_mem hx
    have hi' : i < s.size := by rw [← bs_length]; exact hi
    exact h i hi' (Nat.zero_le _)
  · intro h i hi _
    exact h _ (List.getElem_mem (l := bs s) (by rw [bs_length]; exact hi))
end Go.Proofs.YtjcefgjgjhdbpaaGreatDoor
namespace Go.Proofs.YtjcefgjgjhdbpaaGreatDoor
set_option linter.unusedVariables false
set_option linter.unusedSimpArgs false
open Go.RowKit Go.Maps

/-- may a file be? -/
def fileOk (s : ByteArray) : Bool := nameB s && ((bs s).head? == some 47)
theorem prefix_head (s : ByteArray) : Lib.hasPrefix s.data.toList [47] = ((bs s).head? == some 47) := by
  unfold Lib.hasPrefix
  show List.isPrefixOf [47] (bs s) = _
  cases bs s with
  | nil => rfl
  | cons c l =>
    simp only [List.isPrefixOf, Bool.and_true, List.head?_cons]
    by_cases h : c = 47
    · subst h; rfl
    · have h' : ¬ (47 : UInt8) = c := fun e => h e.symm
      have e1 : (47 == c) = false := by simpa using h'
      have e2 : (some c == some (47 : UInt8)) = false := by simpa using h
      rw [e1, e2]

set_option maxHeartbeats 1000000 in
/-- The closure: is a file wrong? -/
theorem file_c (s : ByteArray) (w : World) : Calls Tryz.prog 70 #[.string s] w fun e w' => e = .returned (.bool (!fileOk s)) ∧ Below w.heap.size w w' := by
  have hP : Calls Tryz.prog 20 #[.string s, .string ⟨#[47]⟩] w fun e w' => e = .returned (.bool ((bs s).head? == some 47)) ∧ w' = w := by
    rw [← prefix_head]
    exact Any.strings_HasPrefix Tryz.layPrefix s ⟨#[47]⟩ w
  have hN := name_c s
  have HR : Hid (fileOk s = (nameB s && ((bs s).head? == some 47))) := rfl
  generalize ((bs s).head? == some 47) = x at hP HR
  generalize nameB s = y at hN HR
  replace hP := Lib.hid hP
  replace hN := Lib.hid hN
  go_enter Tryz.func70, Tryz.ntmps70
  go_wp2_with fail
  refine hP.out.mono ?_
  rintro e w' ⟨rfl, rfl⟩
  cases x with
  | false =>
    go_wp2_with fail
    go_ret
    exact ⟨by rw [HR.out]; cases y <;> rfl, Below.refl _ _⟩
  | true =>
    go_wp2_with fail
    refine (hN.out _).mono ?_
    rintro e w2 ⟨rfl, hb⟩
    replace hb := Lib.hid hb
    go_wp2_with fail
    go_ret
    exact ⟨by rw [HR.out]; cases y <;> rfl, hb.out⟩

set_option maxHeartbeats 1000000 in
theorem filesI_c (l : List ByteArray) (v : Value) (S : Nat → Prop) (w : World) (h : StrsV w S l v) :
    Calls Tryz.prog 106 #[v, .func (.func 70) #[] #[]] w fun e w' => (∃ I : Int, e = .returned (.int .i64 I) ∧ decide (0 ≤ I) = !l.all fileOk) ∧ Below w.heap.size w w' := by
  obtain ⟨a, c, rfl, hs, hn, hin⟩ := h
  obtain ⟨n, hln⟩ : ∃ n, l.length = n := ⟨_, rfl⟩
  have HIN : Hid (n ≠ 0 → ∃ b off, a = some ⟨b, off, none⟩ ∧ ∀ i (h : i < n), w.cell? ⟨b, off + i, none⟩ = some (.string (l[i]'(by omega)))) := fun h0 => by
    obtain ⟨b, off, e, _, hc⟩ := hin (fun e => h0 (by rw [← hln, e]; rfl))
    exact ⟨b, off, e, fun i hi => hc i (by omega)⟩
  have HNO : Hid (∀ i (h : i < n), fileOk (l[i]'(by omega)) = false → (!l.all fileOk) = true) := fun i hi hf => by
    have : l.all fileOk = false := by
      rw [List.all_eq_false]
      exact ⟨l[i], List.getElem_mem _, by rw [hf]; decide⟩
    rw [this]; rfl
  have HYES : Hid ((∀ i (h : i < n), fileOk (l[i]'(by omega)) = true) → (!l.all fileOk) = false) := fun h => by
    have : l.all fileOk = true := by
      rw [List.all_eq_true]
      intro x hx
      obtain ⟨i, hi, rfl⟩ := List.getElem_of_mem hx
      exact h i (by omega)
    rw [this]; rfl
  generalize (!l.all fileOk) = RES at HNO HYES
  rw [hln]
  have HLEN := Lib.hid hln
  rw [hln] at hn
  clear hin hs
  go_enter Tryz.func106, Tryz.ntmps106
  go_wp2_with fail
  go_loopw [8] (fun vi wr => ∃ i : Nat, vi = .int .i64 i ∧ i ≤ n ∧ Hid (∀ j (h : j < n), j < i → fileOk (l[j]'(by have := HLEN.out; omega)) = true) ∧ Hid (Below w.heap.size w wr)) (fun vi _ => n - (intOf vi).toNat)
  case atStart => exact ⟨0, rfl, Nat.zero_le _, fun j h h0 => absurd h0 (Nat.not_lt_zero _), Below.refl _ _⟩
  case round =>
    obtain ⟨i, rfl, hin, HG, HT⟩ := hrel
    by_cases hlt : i < n
    · have hi1 : (i : Int) < (n : Int) := by omega
      obtain ⟨b, off, rfl, hc⟩ := HIN.out (by omega)
      have hci := hc i hlt
      have hNO := HNO.out i hlt
      have hil : i < l.length := by have := HLEN.out; omega
      have hOK : fileOk (l[i]'hil) = true → ∀ j (h : j < n), j < i + 1 → fileOk (l[j]'(by have := HLEN.out; omega)) = true := by
        intro h0 j h hj
        rcases Nat.lt_succ_iff_lt_or_eq.1 hj with h1 | h1
        · exact HG.out j h h1
        · subst h1; exact h0
      have hF := file_c (l[i]'hil)
      replace hOK := Lib.hid hOK
      replace hNO := Lib.hid hNO
      replace hF := Lib.hid hF
      have q0 : wr.cell? ⟨b, off + i, none⟩ = some (.string (l[i]'hil)) := (HT.out.cell (p := ⟨b, off + i, none⟩) (World.block_lt_of_cell? w _ hci)).trans hci
      clear hci hc
      generalize l[i]'hil = s at hF q0 hOK hNO
      obtain ⟨fx, hfx⟩ : ∃ fx, fileOk s = fx := ⟨_, rfl⟩
      rw [hfx] at hF hOK hNO
      clear hfx
      cases fx with
      | false =>
        go_wp2_with fail
        refine (hF.out wr).mono ?_
        rintro e w2 ⟨rfl, hb2⟩
        replace hb2 := Lib.hid (below_tr HT.out hb2)
        go_wp2_with fail
        go_ret
        refine ⟨⟨i, rfl, ?_⟩, hb2.out⟩
        have h1 := hNO.out trivial
        rw [h1]
        exact decide_eq_true (by omega)
      | true =>
        go_wp2_with fail
        refine (hF.out wr).mono ?_
        rintro e w2 ⟨rfl, hb2⟩
        replace hb2 := Lib.hid (below_tr HT.out hb2)
        go_wp2_with fail
        go_roundw
        case rel => exact ⟨i + 1, by go_num, by omega, hOK.out trivial, hb2.out⟩
        case measure => simp [intOf]; omega
    · have hi1 : ¬ (i : Int) < (n : Int) := by omega
      have hR := HYES.out fun j h => HG.out j h (by omega)
      go_wp2_with fail
      go_ret
      exact ⟨⟨-1, rfl, by decide⟩, HT.out⟩

set_option maxHeartbeats 1000000 in
theorem filesA_c (l : List ByteArray) (a : Option Addr) (n c : Nat) (S : Nat → Prop) (w : World) (h : StrsV w S l (.slice a n c)) :
    Calls Tryz.prog 69 #[.slice a n c, .func (.func 70) #[] #[]] w fun e w' => e = .returned (.bool (!l.all fileOk)) ∧ Below w.heap.size w w' := by
  have hF := Lib.hid (filesI_c l _ S w h)
  generalize (!l.all fileOk) = RES at hF
  clear h
  go_enter Tryz.func69, Tryz.ntmps69
  go_wp2_with fail
  refine hF.out.mono ?_
  rintro e w2 ⟨⟨I, rfl, hI⟩, hb2⟩
  replace hb2 := Lib.hid hb2
  replace hI := Lib.hid hI
  go_wp2_with fail
  go_ret
  exact ⟨by rw [← hI.out]; rfl, hb2.out⟩
end Go.Proofs.YtjcefgjgjhdbpaaGreatDoor
namespace Go.Proofs.YtjcefgjgjhdbpaaGreatDoor
set_option linter.unusedVariables false
set_option linter.unusedSimpArgs false
open Go.RowKit Go.Maps

theorem small_ways (r : Nat) : (¬ (r : Int) < 97 ∧ ¬ 122 < (r : Int) ∧ smallR r = true) ∨ ((r : Int) < 97 ∧ ¬ (r : Int) < 48 ∧ ¬ 57 < (r : Int) ∧ smallR r = true) ∨ ((r : Int) < 97 ∧ ¬ (r : Int) < 48 ∧ 57 < (r : Int) ∧ ((r : Int) != 95) = false ∧ smallR r = true) ∨
    ((r : Int) < 97 ∧ (r : Int) < 48 ∧ ((r : Int) != 95) = true ∧ smallR r = false) ∨ ((r : Int) < 97 ∧ ¬ (r : Int) < 48 ∧ 57 < (r : Int) ∧ ((r : Int) != 95) = true ∧ smallR r = false) ∨ (¬ (r : Int) < 97 ∧ 122 < (r : Int) ∧ ¬ (r : Int) < 48 ∧ 57 < (r : Int) ∧ ((r : Int) != 95) = true ∧ smallR r = false) := by
  have e : ((r : Int) != 95) = !decide (r = 95) := by
    by_cases h : r = 95
    · subst h; rfl
    · rw [decide_eq_false h]
      have : ¬ (r : Int) = 95 := by omega
      simpa using this
  rw [e]
  unfold smallR
  by_cases h1 : 97 ≤ r
  · by_cases h2 : r ≤ 122
    · left; exact ⟨by omega, by omega, by simp [h1, h2]⟩
    · right; right; right; right; right
      have a1 : ¬ r ≤ 57 := by omega
      have a2 : ¬ r = 95 := by omega
      exact ⟨by omega, by omega, by omega, by omega, by simp [a2], by simp [h1, h2, a1, a2]⟩
  · by_cases h3 : 48 ≤ r
    · by_cases h4 : r ≤ 57
      · right; left; exact ⟨by omega, by omega, by omega, by simp [h3, h4]⟩
      · by_cases h5 : r = 95
        · right; right; left; exact ⟨by omega, by omega, by omega, by simp [h5], by simp [h5]⟩
        · right; right; right; right; left; exact ⟨by omega, by omega, by omega, by simp [h5], by simp [h1, h4, h5]⟩
    · right; right; right; left
      have a2 : ¬ r = 95 := by omega
      exact ⟨by omega, by omega, by simp [a2], by simp [h1, h3, a2]⟩
theorem shown_ways (r : Nat) : (¬ (r : Int) < 32 ∧ ¬ 126 < (r : Int) ∧ shownR r = true) ∨ ((r : Int) < 32 ∧ shownR r = false) ∨ (¬ (r : Int) < 32 ∧ 126 < (r : Int) ∧ shownR r = false) := by
  unfold shownR
  by_cases h1 : 32 ≤ r
  · by_cases h2 : r ≤ 126
    · left; exact ⟨by omega, by omega, by simp [h1, h2]⟩
    · right; right; exact ⟨by omega, by omega, by simp [h1, h2]⟩
  · right; left; exact ⟨by omega, by simp [h1]⟩

set_option maxHeartbeats 1000000 in
theorem rarch_c (s : ByteArray) (hs : s.size ≤ maxLen) (w : World) : Calls Tryz.prog 77 #[.string s] w fun e w' => e = .returned (.bool (allBy smallR s && (decide (1 ≤ (s.size : Int)) && decide ((s.size : Int) ≤ 20)))) ∧ w = w' := by
  unfold maxLen at hs
  obtain ⟨RES, hRES⟩ : ∃ RES, (allBy smallR s && (decide (1 ≤ (s.size : Int)) && decide ((s.size : Int) ≤ 20))) = RES := ⟨_, rfl⟩
  rw [hRES]
  replace hRES := Lib.hid hRES
  go_enter Tryz.func77, Tryz.ntmps77
  go_wp2_with fail
  go_loopw [3] (fun vi wr => ∃ k : Nat, k ≤ s.size ∧ vi = .int .i64 k ∧ w = wr ∧ Hid (∀ j (hj : j < s.size), j < k → smallR s[j].toNat = true)) (fun vi _ => s.size - (intOf vi).toNat)
  case atStart => exact ⟨0, Nat.zero_le _, rfl, rfl, fun j _ hj => absurd hj (Nat.not_lt_zero j)⟩
  case round =>
    obtain ⟨k, hk, rfl, rfl, HK⟩ := hrel
    by_cases hlt : k < s.size
    · have hlt' : (k : Int) < (s.size : Int) := by omega
      have H := small_ways s[k].toNat
      have hNO : smallR s[k].toNat = false → allBy smallR s = false := fun h => by
        unfold allBy
        rw [List.all_eq_false]
        have h2 : k < (bs s).length := by rw [bs_length]; exact hlt
        exact ⟨(bs s)[k], List.getElem_mem h2, by show ¬ smallR s[k].toNat = true; rw [h]; decide⟩
      have hOK : smallR s[k].toNat = true → ∀ j (hj : j < s.size), j < k + 1 → smallR s[j].toNat = true := fun h j hj hjk => by
        rcases Nat.lt_succ_iff_lt_or_eq.1 hjk with h1 | h1
        · exact HK.out j hj h1
        · subst h1; exact h
      replace hNO := Lib.hid hNO
      replace hOK := Lib.hid hOK
      generalize hx : smallR s[k].toNat = x at H hNO hOK
      clear hx
      rcases H with ⟨h1, h2, hx⟩ | ⟨h1, h2, h3, hx⟩ | ⟨h1, h2, h3, h4, hx⟩ | ⟨h1, h2, h3, hx⟩ | ⟨h1, h2, h3, h4, hx⟩ | ⟨h1, h2, h3, h4, h5, hx⟩
      · replace hx := Lib.hid (hOK.out hx)
        go_wp2_with fail
        go_roundw
        case rel => exact ⟨k + 1, by omega, by go_num, trivial, hx.out⟩
        case measure => simp [intOf]; omega
      · replace hx := Lib.hid (hOK.out hx)
        go_wp2_with fail
        go_roundw
        case rel => exact ⟨k + 1, by omega, by go_num, trivial, hx.out⟩
        case measure => simp [intOf]; omega
      · replace hx := Lib.hid (hOK.out hx)
        go_wp2_with fail
        go_roundw
        case rel => exact ⟨k + 1, by omega, by go_num, trivial, hx.out⟩
        case measure => simp [intOf]; omega
      · replace hx := Lib.hid (hNO.out hx)
        go_wp2_with fail
        go_ret
        exact ⟨by rw [← hRES.out, hx.out]; rfl, rfl⟩
      · replace hx := Lib.hid (hNO.out hx)
        go_wp2_with fail
        go_ret
        exact ⟨by rw [← hRES.out, hx.out]; rfl, rfl⟩
      · replace hx := Lib.hid (hNO.out hx)
        go_wp2_with fail
        go_ret
        exact ⟨by rw [← hRES.out, hx.out]; rfl, rfl⟩
    · have hge : ¬ (k : Int) < (s.size : Int) := by omega
      have hall : Hid (allBy smallR s = true) := by
        unfold Hid allBy
        rw [List.all_eq_true]
        intro y hy
        obtain ⟨j, hj, rfl⟩ := List.getElem_of_mem hy
        have hj' : j < s.size := by rw [← bs_length]; exact hj
        exact HK.out j hj' (by omega)
      by_cases s1 : 1 ≤ (s.size : Int)
      · by_cases s2 : (s.size : Int) ≤ 20
        · go_wp2_with fail
          go_ret
          exact ⟨by rw [← hRES.out, hall.out, decide_eq_true s1, decide_eq_true s2]; rfl, rfl⟩
        · go_wp2_with fail
          go_ret
          exact ⟨by rw [← hRES.out, hall.out, decide_eq_true s1, decide_eq_false (by omega)]; rfl, rfl⟩
      · go_wp2_with fail
        go_ret
        exact ⟨by rw [← hRES.out, hall.out, decide_eq_false (by omega)]; rfl, rfl⟩

set_option maxHeartbeats 1000000 in
theorem rshown_c (s : ByteArray) (hs : s.size ≤ maxLen) (w : World) : Calls Tryz.prog 78 #[.string s] w fun e w' => e = .returned (.bool (allBy shownR s)) ∧ w = w' := by
  unfold maxLen at hs
  go_enter Tryz.func78, Tryz.ntmps78
  go_wp2_with fail
  go_loopw [3] (fun vi wr => ∃ k : Nat, k ≤ s.size ∧ vi = .int .i64 k ∧ w = wr ∧ Hid (∀ j (hj : j < s.size), j < k → shownR s[j].toNat = true)) (fun vi _ => s.size - (intOf vi).toNat)
  case atStart => exact ⟨0, Nat.zero_le _, rfl, rfl, fun j _ hj => absurd hj (Nat.not_lt_zero j)⟩
  case round =>
    obtain ⟨k, hk, rfl, rfl, HK⟩ := hrel
    by_cases hlt : k < s.size
    · have hlt' : (k : Int) < (s.size : Int) := by omega
      have H := shown_ways s[k].toNat
      have hNO : shownR s[k].toNat = false → allBy shownR s = false := fun h => by
        unfold allBy
        rw [List.all_eq_false]
        have h2 : k < (bs s).length := by rw [bs_length]; exact hlt
        exact ⟨(bs s)[k], List.getElem_mem h2, by show ¬ shownR s[k].toNat = true; rw [h]; decide⟩
      have hOK : shownR s[k].toNat = true → ∀ j (hj : j < s.size), j < k + 1 → shownR s[j].toNat = true := fun h j hj hjk => by
        rcases Nat.lt_succ_iff_lt_or_eq.1 hjk with h1 | h1
        · exact HK.out j hj h1
        · subst h1; exact h
      replace hNO := Lib.hid hNO
      replace hOK := Lib.hid hOK
      generalize hx : shownR s[k].toNat = x at H hNO hOK
      clear hx
      rcases H with ⟨h1, h2, hx⟩ | ⟨h1, hx⟩ | ⟨h1, h2, hx⟩
      · replace hx := Lib.hid (hOK.out hx)
        go_wp2_with fail
        go_roundw
        case rel => exact ⟨k + 1, by omega, by go_num, trivial, hx.out⟩
        case measure => simp [intOf]; omega
      · replace hx := Lib.hid (hNO.out hx)
        go_wp2_with fail
        go_ret
        exact ⟨by rw [hx.out]; rfl, rfl⟩
      · replace hx := Lib.hid (hNO.out hx)
        go_wp2_with fail
        go_ret
        exact ⟨by rw [hx.out]; rfl, rfl⟩
    · have hge : ¬ (k : Int) < (s.size : Int) := by omega
      have hall : Hid (allBy shownR s = true) := by
        unfold Hid allBy
        rw [List.all_eq_true]
        intro y hy
        obtain ⟨j, hj, rfl⟩ := List.getElem_of_mem hy
        have hj' : j < s.size := by rw [← bs_length]; exact hj
        exact HK.out j hj' (by omega)
      go_wp2_with fail
      go_ret
      exact ⟨by rw [hall.out]; rfl, rfl⟩

/-- may the files be? -/
def filesB (l : List ByteArray) : Bool := decide (l.length ≤ 16) && l.all fileOk
set_option maxHeartbeats 1000000 in
theorem rfiles_c (l : List ByteArray) (a : Option Addr) (n c : Nat) (S : Nat → Prop) (w : World) (h : StrsV w S l (.slice a n c)) :
    Calls Tryz.prog 80 #[.slice a n c] w fun e w' => e = .returned (.bool (filesB l)) ∧ w = w' := by
  obtain ⟨a2, c2, he, hs, hn, hin⟩ := h
  obtain ⟨rfl, rfl, rfl⟩ : a = a2 ∧ n = l.length ∧ c = c2 := by injection he; exact ⟨‹_›, ‹_›, ‹_›⟩
  clear he
  obtain ⟨n, hln⟩ : ∃ n, l.length = n := ⟨_, rfl⟩
  have HIN : Hid (n ≠ 0 → ∃ b off, a = some ⟨b, off, none⟩ ∧ ∀ i (h : i < n), w.cell? ⟨b, off + i, none⟩ = some (.string (l[i]'(by omega)))) := fun h0 => by
    obtain ⟨b, off, e, _, hc⟩ := hin (fun e => h0 (by rw [← hln, e]; rfl))
    exact ⟨b, off, e, fun i hi => hc i (by omega)⟩
  have HNO : Hid (∀ i (h : i < n), fileOk (l[i]'(by omega)) = false → filesB l = false) := fun i hi hf => by
    have : l.all fileOk = false := by
      rw [List.all_eq_false]
      exact ⟨l[i], List.getElem_mem _, by rw [hf]; decide⟩
    unfold filesB
    rw [this, Bool.and_false]
  have HLONG : Hid (16 < (n : Int) → filesB l = false) := fun h => by
    unfold filesB
    rw [decide_eq_false (by omega)]
    rfl
  have HYES : Hid (¬ 16 < (n : Int) → (∀ i (h : i < n), fileOk (l[i]'(by omega)) = true) → filesB l = true) := fun h0 h => by
    have : l.all fileOk = true := by
      rw [List.all_eq_true]
      intro x hx
      obtain ⟨i, hi, rfl⟩ := List.getElem_of_mem hx
      exact h i (by omega)
    unfold filesB
    rw [this, decide_eq_true (by omega)]
    rfl
  generalize filesB l = RES at HNO HLONG HYES
  rw [hln] at hn
  rw [hln]
  have HLEN := Lib.hid hln
  clear hin hs
  go_enter Tryz.func80, Tryz.ntmps80
  by_cases h16 : 16 < (n : Int)
  · have hr := HLONG.out h16
    go_wp2_with fail
    go_ret
    exact ⟨by first | rfl | (rw [hr]; rfl), rfl⟩
  replace HYES := Lib.hid (HYES.out h16)
  go_wp2_with fail
  go_loopw [3] (fun vi wr => ∃ i : Nat, vi = .int .i64 i ∧ i ≤ n ∧ w = wr ∧ Hid (∀ j (h : j < n), j < i → fileOk (l[j]'(by have := HLEN.out; omega)) = true)) (fun vi _ => n - (intOf vi).toNat)
  case atStart => exact ⟨0, rfl, Nat.zero_le _, rfl, fun j h h0 => absurd h0 (Nat.not_lt_zero _)⟩
  case round =>
    obtain ⟨i, rfl, hin, rfl, HG⟩ := hrel
    by_cases hlt : i < n
    · have hi1 : (i : Int) < (n : Int) := by omega
      obtain ⟨b, off, rfl, hc⟩ := HIN.out (by omega)
      have q0 := hc i hlt
      have hNO := HNO.out i hlt
      have hil : i < l.length := by have := HLEN.out; omega
      have hOK : fileOk (l[i]'hil) = true → ∀ j (h : j < n), j < i + 1 → fileOk (l[j]'(by have := HLEN.out; omega)) = true := by
        intro h0 j h hj
        rcases Nat.lt_succ_iff_lt_or_eq.1 hj with h1 | h1
        · exact HG.out j h h1
        · subst h1; exact h0
      have hF := rname_c (l[i]'hil) w
      replace hOK := Lib.hid hOK
      replace hNO := Lib.hid hNO
      clear hc
      generalize l[i]'hil = s at hF q0 hOK hNO
      have H : (nameB s = false ∧ fileOk s = false) ∨ (nameB s = true ∧ ∃ h0 : 0 < s.size, (((s[0].toNat : Int) != 47) = true ∧ fileOk s = false ∨ ((s[0].toNat : Int) != 47) = false ∧ fileOk s = true)) := by
        unfold fileOk
        cases hb : nameB s with
        | false => left; exact ⟨rfl, rfl⟩
        | true =>
          right
          have h0 : 0 < s.size := by
            unfold nameB at hb
            simp only [Bool.and_eq_true, decide_eq_true_eq] at hb
            omega
          have hh : (bs s).head? = some s[0] := by
            have hl : 0 < (bs s).length := by rw [bs_length]; exact h0
            rw [List.head?_eq_getElem?, List.getElem?_eq_getElem hl]
            rfl
          refine ⟨rfl, h0, ?_⟩
          rw [hh]
          by_cases hc : s[0] = 47
          · right
            rw [hc]
            exact ⟨rfl, rfl⟩
          · left
            have h1 := u8_ne.1 hc
            refine ⟨?_, by simpa using hc⟩
            have : ¬ (s[0].toNat : Int) = 47 := by simpa using h1
            simpa using this
      obtain ⟨fx, hfx⟩ : ∃ fx, fileOk s = fx := ⟨_, rfl⟩
      rw [hfx] at hOK hNO H
      clear hfx
      replace hF := Lib.hid hF
      rcases H with ⟨h1, hx⟩ | ⟨h1, h0, ⟨h2, hx⟩ | ⟨h2, hx⟩⟩
      · rw [h1] at hF
        replace hx := Lib.hid (hNO.out hx)
        go_wp2_with fail
        refine hF.out.mono ?_
        rintro e w2 ⟨rfl, rfl⟩
        go_wp2_with fail
        go_ret
        exact ⟨by rw [hx.out]; rfl, rfl⟩
      · rw [h1] at hF
        replace hx := Lib.hid (hNO.out hx)
        have h0' : 0 < (s.size : Int) := by omega
        go_wp2_with fail
        refine hF.out.mono ?_
        rintro e w2 ⟨rfl, rfl⟩
        go_wp2_with fail
        go_ret
        exact ⟨by rw [hx.out]; rfl, rfl⟩
      · rw [h1] at hF
        replace hx := Lib.hid (hOK.out hx)
        have h0' : 0 < (s.size : Int) := by omega
        go_wp2_with fail
        refine hF.out.mono ?_
        rintro e w2 ⟨rfl, rfl⟩
        go_wp2_with fail
        go_roundw
        case rel => exact ⟨i + 1, by go_num, by omega, trivial, hx.out⟩
        case measure => simp [intOf]; omega
    · have hi1 : ¬ (i : Int) < (n : Int) := by omega
      have hR := Lib.hid (HYES.out fun j h => HG.out j h (by omega))
      go_wp2_with fail
      go_ret
      exact ⟨by rw [hR.out]; rfl, rfl⟩
end Go.Proofs.YtjcefgjgjhdbpaaGreatDoor
namespace Go.Proofs.YtjcefgjgjhdbpaaGreatDoor
set_option linter.unusedVariables false
set_option linter.unusedSimpArgs false
open Go.RowKit Go.Maps

def archB (s : ByteArray) : Bool := allBy smallR s && (decide (1 ≤ (s.size : Int)) && decide ((s.size : Int) ≤ 20))
def vendB (s : ByteArray) : Bool := allBy shownR s && decide ((s.size : Int) ≤ 60)
def chk6 (a : Bool) (q : Int) (b c d e : Bool) : Int := if a = false then 60 else if q ≠ 0 then 61 else if b = false then 62 else if c = false then 63 else if d = false then 64 else if e = false then 65 else 0
/-- may a package be? -/
def pkgCheck (p : PkgT) : Int := chk6 (nameB p.name) (errOf (parse (bs p.evr))) (archB p.arch) (vendB p.vendor) (depsB p) (filesB p.files)

theorem arch_all (s : ByteArray) (w : World) : Calls Tryz.prog 63 #[.string s, .int .i64 20, .func (.func 61) #[] #[]] w fun e w' => e = .returned (.bool (decide ((s.size : Int) ≤ 20) && allBy smallR s)) ∧ Below w.heap.size w w' := by
  rw [← idx_by smallR (fun r => smallR_lt) s]
  exact within_c 61 enters22 smallR (fun w => small_at w) s 20 w
theorem vend_all (s : ByteArray) (w : World) : Calls Tryz.prog 63 #[.string s, .int .i64 60, .func (.func 62) #[] #[]] w fun e w' => e = .returned (.bool (vendB s)) ∧ Below w.heap.size w w' := by
  unfold vendB
  rw [← idx_by shownR (fun r => shownR_lt) s, Bool.and_comm]
  exact within_c 62 enters23 shownR (fun w => shown_at w) s 60 w
theorem arch_ways (s : ByteArray) : (s.toList.isEmpty = true ∧ archB s = false) ∨ (s.toList.isEmpty = false ∧ archB s = (decide ((s.size : Int) ≤ 20) && allBy smallR s)) := by
  unfold archB
  by_cases h : s.size = 0
  · left
    exact ⟨by rw [bs_toList, bs_nil.2 h]; rfl, by rw [decide_eq_false (p := 1 ≤ (s.size : Int)) (by omega), Bool.false_and, Bool.and_false]⟩
  · right
    exact ⟨bs_nonempty (by omega), by rw [decide_eq_true (p := 1 ≤ (s.size : Int)) (by omega), Bool.true_and, Bool.and_comm]⟩
theorem filesB_ways (l : List ByteArray) {n : Nat} (h : l.length = n) : (16 < (n : Int) ∧ filesB l = false) ∨ (¬ 16 < (n : Int) ∧ filesB l = l.all fileOk) := by
  unfold filesB
  by_cases h1 : 16 < (n : Int)
  · left; exact ⟨h1, by rw [decide_eq_false (by omega), Bool.false_and]⟩
  · right; exact ⟨h1, by rw [decide_eq_true (by omega), Bool.true_and]⟩
theorem StrsV.len {w : World} {S : Nat → Prop} {l : List ByteArray} {a : Option Addr} {n c : Nat} (h : StrsV w S l (.slice a n c)) : l.length = n := by
  obtain ⟨a2, c2, he, _⟩ := h
  injection he with _ h2 _
  exact h2.symm

set_option maxHeartbeats 4000000 in
set_option maxRecDepth 100000 in
/-- pool.Check. -/
theorem check_c (p : PkgT) (a : Fin 7 → Option Addr) (c : Fin 7 → Nat) (af : Option Addr) (nf cf : Nat) (S : Nat → Prop) (w : World) (h : PkgV w S p (fun i => .slice (a i) (p.n i) (c i)) (.slice af nf cf)) (hS : ∀ b, S b → b < w.heap.size) :
    Calls Tryz.prog 28 #[.agg #[.string p.name, .string p.evr, .string p.arch, .string p.vendor, .slice (a 0) (p.n 0) (c 0), .slice (a 1) (p.n 1) (c 1), .slice (a 2) (p.n 2) (c 2), .slice (a 3) (p.n 3) (c 3), .slice (a 4) (p.n 4) (c 4), .slice (a 5) (p.n 5) (c 5), .slice (a 6) (p.n 6) (c 6), .slice af nf cf]] w fun e w' => e = .returned (.int .i64 (pkgCheck p)) ∧ Below w.heap.size w w' := by
  have HN := name_c p.name
  have HP := parse_c p.evr h.evr
  unfold ParseRes at HP
  obtain ⟨x, y, z, hv⟩ := evrV_ex (parse (bs p.evr))
  rw [hv] at HP
  have HA := arch_all p.arch
  have HAW := arch_ways p.arch
  have HV := vend_all p.vendor
  have HF := fun (w' : World) (hb : Below w.heap.size w w') => filesA_c p.files af nf cf S w' (h.files.below hb)
  have HFW := filesB_ways p.files h.files.len
  have HD := fun (w' : World) (hb : Below w.heap.size w w') => deps_c p a c af nf cf S w' (h.below hb) (fun b hb' => Nat.lt_of_lt_of_le (hS b hb') hb.size)
  obtain ⟨RES, hRES⟩ : ∃ RES, pkgCheck p = RES := ⟨_, rfl⟩
  rw [hRES]
  unfold pkgCheck at hRES
  clear hv h hS
  generalize nameB p.name = bn at HN hRES
  generalize errOf (parse (bs p.evr)) = q at HP hRES
  generalize (decide ((p.arch.size : Int) ≤ 20) && allBy smallR p.arch) = baa at HA HAW
  generalize archB p.arch = ba at HAW hRES
  generalize vendB p.vendor = bv at HV hRES
  generalize depsB p = bd at HD hRES
  generalize p.files.all fileOk = bff at HF HFW
  generalize filesB p.files = bf at HFW hRES
  replace HN := Lib.hid HN
  replace HP := Lib.hid HP
  replace HA := Lib.hid HA
  replace HV := Lib.hid HV
  replace HD := Lib.hid HD
  replace HF := Lib.hid HF
  replace HAW := Lib.hid HAW
  replace HFW := Lib.hid HFW
  have hD := Lib.hid hRES.symm
  clear hRES
  obtain ⟨w1, e1⟩ : ∃ w1, w.alloc (.cells #[.string p.name, .string p.evr, .string p.arch, .string p.vendor, .slice (a 0) (p.n 0) (c 0), .slice (a 1) (p.n 1) (c 1), .slice (a 2) (p.n 2) (c 2), .slice (a 3) (p.n 3) (c 3), .slice (a 4) (p.n 4) (c 4), .slice (a 5) (p.n 5) (c 5), .slice (a 6) (p.n 6) (c 6), .slice af nf cf] 36) = w1 := ⟨_, rfl⟩
  have HB1 : Hid (Below w.heap.size w w1 ∧ BoxN w1 w.heap.size (pkgCells p.name p.evr p.arch p.vendor (fun i => .slice (a i) (p.n i) (c i)) (.slice af nf cf)) 36) := by
    rw [← e1]
    exact ⟨below1 _ _, boxN_alloc _ _ _⟩
  have p0 := HB1.out.2.cell (j := 0) rfl
  have p1 := HB1.out.2.cell (j := 1) rfl
  have p2 := HB1.out.2.cell (j := 2) rfl
  have p3 := HB1.out.2.cell (j := 3) rfl
  have p4 := HB1.out.2.cell (j := 4) rfl
  have p5 := HB1.out.2.cell (j := 5) rfl
  have p6 := HB1.out.2.cell (j := 6) rfl
  have p7 := HB1.out.2.cell (j := 7) rfl
  have p8 := HB1.out.2.cell (j := 8) rfl
  have p9 := HB1.out.2.cell (j := 9) rfl
  have p10 := HB1.out.2.cell (j := 10) rfl
  have p11 := HB1.out.2.cell (j := 11) rfl
  go_enter Tryz.func28, Tryz.ntmps28
  go_wp2_with fail
  refine (HP.out w1).mono ?_
  rintro e w2 ⟨rfl, hb⟩
  have HB2 : Hid (Below w.heap.size w w2 ∧ BoxN w2 w.heap.size (pkgCells p.name p.evr p.arch p.vendor (fun i => .slice (a i) (p.n i) (c i)) (.slice af nf cf)) 36) := ⟨below_tr HB1.out.1 hb, HB1.out.2.below hb⟩
  clear hb
  clear p0 p1 p2 p3 p4 p5 p6 p7 p8 p9 p10 p11
  have p0 := HB2.out.2.cell (j := 0) rfl
  have p1 := HB2.out.2.cell (j := 1) rfl
  have p2 := HB2.out.2.cell (j := 2) rfl
  have p3 := HB2.out.2.cell (j := 3) rfl
  have p4 := HB2.out.2.cell (j := 4) rfl
  have p5 := HB2.out.2.cell (j := 5) rfl
  have p6 := HB2.out.2.cell (j := 6) rfl
  have p7 := HB2.out.2.cell (j := 7) rfl
  have p8 := HB2.out.2.cell (j := 8) rfl
  have p9 := HB2.out.2.cell (j := 9) rfl
  have p10 := HB2.out.2.cell (j := 10) rfl
  have p11 := HB2.out.2.cell (j := 11) rfl
  obtain ⟨w3, e3⟩ : ∃ w3, w2.alloc (.cells #[.string x, .string y, .string z] 97) = w3 := ⟨_, rfl⟩
  have HB3 : Hid (Below w.heap.size w w3 ∧ BoxN w3 w.heap.size (pkgCells p.name p.evr p.arch p.vendor (fun i => .slice (a i) (p.n i) (c i)) (.slice af nf cf)) 36) := by
    have h2 : Below w2.heap.size w2 w3 := by rw [← e3]; exact below1 _ _
    exact ⟨below_tr HB2.out.1 h2, HB2.out.2.below h2⟩
  clear p0 p1 p2 p3 p4 p5 p6 p7 p8 p9 p10 p11
  have p0 := HB3.out.2.cell (j := 0) rfl
  have p1 := HB3.out.2.cell (j := 1) rfl
  have p2 := HB3.out.2.cell (j := 2) rfl
  have p3 := HB3.out.2.cell (j := 3) rfl
  have p4 := HB3.out.2.cell (j := 4) rfl
  have p5 := HB3.out.2.cell (j := 5) rfl
  have p6 := HB3.out.2.cell (j := 6) rfl
  have p7 := HB3.out.2.cell (j := 7) rfl
  have p8 := HB3.out.2.cell (j := 8) rfl
  have p9 := HB3.out.2.cell (j := 9) rfl
  have p10 := HB3.out.2.cell (j := 10) rfl
  have p11 := HB3.out.2.cell (j := 11) rfl
  go_wp2_with fail
  refine (HN.out w3).mono ?_
  rintro e w4 ⟨rfl, hb⟩
  have HB4 : Hid (Below w.heap.size w w4 ∧ BoxN w4 w.heap.size (pkgCells p.name p.evr p.arch p.vendor (fun i => .slice (a i) (p.n i) (c i)) (.slice af nf cf)) 36) := ⟨below_tr HB3.out.1 hb, HB3.out.2.below hb⟩
  clear hb
  clear p0 p1 p2 p3 p4 p5 p6 p7 p8 p9 p10 p11
  have p0 := HB4.out.2.cell (j := 0) rfl
  have p1 := HB4.out.2.cell (j := 1) rfl
  have p2 := HB4.out.2.cell (j := 2) rfl
  have p3 := HB4.out.2.cell (j := 3) rfl
  have p4 := HB4.out.2.cell (j := 4) rfl
  have p5 := HB4.out.2.cell (j := 5) rfl
  have p6 := HB4.out.2.cell (j := 6) rfl
  have p7 := HB4.out.2.cell (j := 7) rfl
  have p8 := HB4.out.2.cell (j := 8) rfl
  have p9 := HB4.out.2.cell (j := 9) rfl
  have p10 := HB4.out.2.cell (j := 10) rfl
  have p11 := HB4.out.2.cell (j := 11) rfl
  cases bn with
  | false =>
    go_wp2_with fail
    go_ret
    exact ⟨by rw [hD.out]; rfl, HB4.out.1⟩
  | true =>
  by_cases hq : q = 0
  case neg =>
    have hq1 : (q != 0) = true := by simpa using hq
    replace hq := Lib.hid hq
    go_wp2_with fail
    go_ret
    exact ⟨by rw [hD.out]; unfold chk6; rw [if_neg (by decide), if_pos hq.out]; rfl, HB4.out.1⟩
  subst hq
  rcases HAW.out with ⟨hz, hba⟩ | ⟨hz, hba⟩
  · subst hba
    go_wp2_with fail
    go_ret
    exact ⟨by rw [hD.out]; rfl, HB4.out.1⟩
  subst hba
  go_wp2_with fail
  refine (HA.out w4).mono ?_
  rintro e w5 ⟨rfl, hb⟩
  have HB5 : Hid (Below w.heap.size w w5 ∧ BoxN w5 w.heap.size (pkgCells p.name p.evr p.arch p.vendor (fun i => .slice (a i) (p.n i) (c i)) (.slice af nf cf)) 36) := ⟨below_tr HB4.out.1 hb, HB4.out.2.below hb⟩
  clear hb
  clear p0 p1 p2 p3 p4 p5 p6 p7 p8 p9 p10 p11
  have p0 := HB5.out.2.cell (j := 0) rfl
  have p1 := HB5.out.2.cell (j := 1) rfl
  have p2 := HB5.out.2.cell (j := 2) rfl
  have p3 := HB5.out.2.cell (j := 3) rfl
  have p4 := HB5.out.2.cell (j := 4) rfl
  have p5 := HB5.out.2.cell (j := 5) rfl
  have p6 := HB5.out.2.cell (j := 6) rfl
  have p7 := HB5.out.2.cell (j := 7) rfl
  have p8 := HB5.out.2.cell (j := 8) rfl
  have p9 := HB5.out.2.cell (j := 9) rfl
  have p10 := HB5.out.2.cell (j := 10) rfl
  have p11 := HB5.out.2.cell (j := 11) rfl
  cases ba with
  | false =>
    go_wp2_with fail
    go_ret
    exact ⟨by rw [hD.out]; rfl, HB5.out.1⟩
  | true =>
  go_wp2_with fail
  refine (HV.out w5).mono ?_
  rintro e w6 ⟨rfl, hb⟩
  have HB6 : Hid (Below w.heap.size w w6 ∧ BoxN w6 w.heap.size (pkgCells p.name p.evr p.arch p.vendor (fun i => .slice (a i) (p.n i) (c i)) (.slice af nf cf)) 36) := ⟨below_tr HB5.out.1 hb, HB5.out.2.below hb⟩
  clear hb
  clear p0 p1 p2 p3 p4 p5 p6 p7 p8 p9 p10 p11
  have p0 := HB6.out.2.cell (j := 0) rfl
  have p1 := HB6.out.2.cell (j := 1) rfl
  have p2 := HB6.out.2.cell (j := 2) rfl
  have p3 := HB6.out.2.cell (j := 3) rfl
  have p4 := HB6.out.2.cell (j := 4) rfl
  have p5 := HB6.out.2.cell (j := 5) rfl
  have p6 := HB6.out.2.cell (j := 6) rfl
  have p7 := HB6.out.2.cell (j := 7) rfl
  have p8 := HB6.out.2.cell (j := 8) rfl
  have p9 := HB6.out.2.cell (j := 9) rfl
  have p10 := HB6.out.2.cell (j := 10) rfl
  have p11 := HB6.out.2.cell (j := 11) rfl
  cases bv with
  | false =>
    go_wp2_with fail
    go_ret
    exact ⟨by rw [hD.out]; rfl, HB6.out.1⟩
  | true =>
  go_wp2_with fail
  refine (HD.out w6 HB6.out.1).mono ?_
  rintro e w7 ⟨rfl, hb⟩
  have HB7 : Hid (Below w.heap.size w w7 ∧ BoxN w7 w.heap.size (pkgCells p.name p.evr p.arch p.vendor (fun i => .slice (a i) (p.n i) (c i)) (.slice af nf cf)) 36) := ⟨below_tr HB6.out.1 hb, HB6.out.2.below hb⟩
  clear hb
  clear p0 p1 p2 p3 p4 p5 p6 p7 p8 p9 p10 p11
  have p0 := HB7.out.2.cell (j := 0) rfl
  have p1 := HB7.out.2.cell (j := 1) rfl
  have p2 := HB7.out.2.cell (j := 2) rfl
  have p3 := HB7.out.2.cell (j := 3) rfl
  have p4 := HB7.out.2.cell (j := 4) rfl
  have p5 := HB7.out.2.cell (j := 5) rfl
  have p6 := HB7.out.2.cell (j := 6) rfl
  have p7 := HB7.out.2.cell (j := 7) rfl
  have p8 := HB7.out.2.cell (j := 8) rfl
  have p9 := HB7.out.2.cell (j := 9) rfl
  have p10 := HB7.out.2.cell (j := 10) rfl
  have p11 := HB7.out.2.cell (j := 11) rfl
  cases bd with
  | false =>
    go_wp2_with fail
    go_ret
    exact ⟨by rw [hD.out]; rfl, HB7.out.1⟩
  | true =>
  rcases HFW.out with ⟨hz2, hbf⟩ | ⟨hz2, hbf⟩
  · subst hbf
    go_wp2_with fail
    go_ret
    exact ⟨by rw [hD.out]; rfl, HB7.out.1⟩
  subst hbf
  go_wp2_with fail
  refine (HF.out w7 HB7.out.1).mono ?_
  rintro e w8 ⟨rfl, hb⟩
  have HB8 : Hid (Below w.heap.size w w8 ∧ BoxN w8 w.heap.size (pkgCells p.name p.evr p.arch p.vendor (fun i => .slice (a i) (p.n i) (c i)) (.slice af nf cf)) 36) := ⟨below_tr HB7.out.1 hb, HB7.out.2.below hb⟩
  clear hb
  clear p0 p1 p2 p3 p4 p5 p6 p7 p8 p9 p10 p11
  have p0 := HB8.out.2.cell (j := 0) rfl
  have p1 := HB8.out.2.cell (j := 1) rfl
  have p2 := HB8.out.2.cell (j := 2) rfl
  have p3 := HB8.out.2.cell (j := 3) rfl
  have p4 := HB8.out.2.cell (j := 4) rfl
  have p5 := HB8.out.2.cell (j := 5) rfl
  have p6 := HB8.out.2.cell (j := 6) rfl
  have p7 := HB8.out.2.cell (j := 7) rfl
  have p8 := HB8.out.2.cell (j := 8) rfl
  have p9 := HB8.out.2.cell (j := 9) rfl
  have p10 := HB8.out.2.cell (j := 10) rfl
  have p11 := HB8.out.2.cell (j := 11) rfl
  cases bf with
  | false =>
    go_wp2_with fail
    go_ret
    exact ⟨by rw [hD.out]; rfl, HB8.out.1⟩
  | true =>
    go_wp2_with fail
    go_ret
    exact ⟨by rw [hD.out]; rfl, HB8.out.1⟩
end Go.Proofs.YtjcefgjgjhdbpaaGreatDoor
