/-
  What may be a key, what may be a value: the walks. Helper text; the conditions are those typed.
-/
import Derived.Test.YtnplmembdfklcaaDoorKeyA
import Derived.Shelf.Strings.Runes
import Derived.Shelf.Slices.Clone
import Derived.Shelf.SlicesE.IndexFunc
namespace Go.Proofs.YtnplmembdfklcaaDoor
set_option linter.unusedVariables false
set_option linter.unusedSimpArgs false
open Go.RowKit Go.Shelf

/-- is a rune one of ':._-'? -/
def hasR (r : Nat) : Bool := decide (r < 128) && decide (0 ≤ Lib.indexByte marks.data.toList r.toUInt8)
theorem containsRune_c (r : Nat) (w : World) : Calls Tryd.prog 42 #[.string ⟨#[58, 46, 95, 45]⟩, .int .i32 (r : Int)] w fun e w' => e = .returned (.bool (hasR r)) ∧ Below w.heap.size w w' := by
  by_cases h : r < 128
  · have h1 := Any.strings_ContainsRune_ascii (P := Tryd.prog) (ρ := Tryd.layHasRune_ren) { Tryd.layHasRune with } marks (r : Int) w (by omega) (by omega)
    have h2 : hasR r = decide (0 ≤ Lib.indexByte marks.data.toList (r : Int).toNat.toUInt8) := by
      unfold hasR
      simp [h]
    rw [h2]
    exact h1.mono fun e w' ⟨a, b⟩ => ⟨a, by rw [b]; exact Below.refl _ _⟩
  · have h2 : hasR r = false := by
      unfold hasR
      simp [h]
    rw [h2]
    have HI : Hid (∀ w, Calls Tryd.prog 58 #[.string ⟨#[58, 46, 95, 45]⟩, .int .i32 (r : Int)] w fun e w' => e = .returned (.int .i64 (-1)) ∧ Below w.heap.size w w') := fun w => indexRune_far (r : Int) (by omega) w
    go_enter Tryd.func42, Tryd.ntmps42
    go_wp2_with (go_at_call 58; refine (HI.out _).mono ?_; rintro e w' ⟨rfl, hb⟩)
    go_ret
    exact ⟨rfl, hb⟩

/-- May a rune not stand in a key? -/
def oddK (r : Nat) : Bool := !(decide (97 ≤ r ∧ r ≤ 122) || decide (48 ≤ r ∧ r ≤ 57) || hasR r)
theorem oddK_c (r : Nat) (w : World) : Calls Tryd.prog 41 #[.int .i32 (r : Int)] w fun e w' => e = .returned (.bool (oddK r)) ∧ Below w.heap.size w w' := by
  have HC := Lib.hid (fun w => containsRune_c r w)
  have H : (97 ≤ (r : Int) ∧ (r : Int) ≤ 122 ∧ oddK r = false) ∨ (¬ 97 ≤ (r : Int) ∧ 48 ≤ (r : Int) ∧ (r : Int) ≤ 57 ∧ oddK r = false) ∨ (¬ 97 ≤ (r : Int) ∧ 48 ≤ (r : Int) ∧ ¬ (r : Int) ≤ 57 ∧ oddK r = !hasR r) ∨ (¬ 97 ≤ (r : Int) ∧ ¬ 48 ≤ (r : Int) ∧ oddK r = !hasR r) ∨ (97 ≤ (r : Int) ∧ ¬ (r : Int) ≤ 122 ∧ 48 ≤ (r : Int) ∧ ¬ (r : Int) ≤ 57 ∧ oddK r = !hasR r) := by
    unfold oddK
    by_cases h1 : 97 ≤ r
    · by_cases h2 : r ≤ 122
      · exact .inl ⟨by omega, by omega, by simp [h1, h2]⟩
      · exact .inr (.inr (.inr (.inr ⟨by omega, by omega, by omega, by omega, by simp [h1, h2, show ¬ r ≤ 57 by omega]⟩)))
    · by_cases h2 : 48 ≤ r
      · by_cases h3 : r ≤ 57
        · exact .inr (.inl ⟨by omega, by omega, by omega, by simp [h1, h2, h3]⟩)
        · exact .inr (.inr (.inl ⟨by omega, by omega, by omega, by simp [h1, h2, h3]⟩))
      · exact .inr (.inr (.inr (.inl ⟨by omega, by omega, by simp [h1, h2]⟩)))
  generalize hasR r = y at H HC
  generalize oddK r = x at H
  rcases H with ⟨h1, h2, rfl⟩ | ⟨h1, h2, h3, rfl⟩ | ⟨h1, h2, h3, rfl⟩ | ⟨h1, h2, rfl⟩ | ⟨h1, h2, h3, h4, rfl⟩
  · go_enter Tryd.func41, Tryd.ntmps41
    go_wp2_with fail
    go_ret
    exact ⟨rfl, Below.refl _ _⟩
  · go_enter Tryd.func41, Tryd.ntmps41
    go_wp2_with fail
    go_ret
    exact ⟨rfl, Below.refl _ _⟩
  all_goals
    go_enter Tryd.func41, Tryd.ntmps41
    go_wp2_with (go_at_call 42; refine (HC.out _).mono ?_; rintro e w' ⟨rfl, hb⟩)
    go_ret
    exact ⟨rfl, hb⟩
theorem enters41 : ∀ args w, (callFunc 41 args).run Tryd.prog w = .ok (.enter 41 args) w := fun args w => by kernel_rfl

/-- May a text be a key? -/
def nameB (s : ByteArray) : Bool := match bs s with
  | [] => false
  | c :: _ => decide (s.size ≤ 60) && decide (97 ≤ c.toNat) && decide (c.toNat ≤ 122) && decide (Lib.idxFunc oddK true s < 0)
set_option maxHeartbeats 2000000 in
set_option maxRecDepth 100000 in
theorem name_c (s : ByteArray) (w : World) : Calls Tryd.prog 25 #[.string s] w fun e w' => e = .returned (.bool (nameB s)) ∧ Below w.heap.size w w' := by
  have HIDX : Hid (∀ w, Calls Tryd.prog 39 #[.string s, .func (.func 41) #[] #[]] w fun e w' => e = .returned (.int .i64 (Lib.idxFunc oddK true s)) ∧ Below w.heap.size w w') := fun w => Any.strings_IndexFunc_grows Tryd.layIdxF 41 #[] enters41 oddK s w (fun W x _ _ => oddK_c x W)
  by_cases h0 : s.size = 0
  · have hs : s = ⟨#[]⟩ := bs_inj (by
      have := bs_len s
      rw [h0] at this
      exact List.eq_nil_of_length_eq_zero this)
    subst hs
    have hn : nameB ⟨#[]⟩ = false := rfl
    rw [hn]
    clear HIDX h0 hn
    go_enter Tryd.func25, Tryd.ntmps25
    go_wp2_with fail
    go_ret
    exact ⟨rfl, Below.refl _ _⟩
  · have hi : 0 < s.size := by omega
    have hc : bs s = s[0] :: (bs s).tail := by
      have h1 := bs_len s
      cases hb : bs s with
      | nil => rw [hb] at h1; exact absurd h1.symm h0
      | cons c t =>
        have h2 : (bs s)[0]? = some c := by rw [hb]; rfl
        have h3 : (bs s)[0]? = some s[0] := by
          show s.data.toList[0]? = _
          rw [Array.getElem?_toList]
          exact Array.getElem?_eq_getElem hi
        rw [h2] at h3
        rw [Option.some.inj h3]
        rfl
    have hne : (s.toList != ([] : List UInt8)) = true := by
      rw [toList_bs, hc]
      rfl
    have hne2 : (s.toList == ([] : List UInt8)) = false := by
      rw [toList_bs, hc]
      rfl
    have HN : Hid (nameB s = (decide (s.size ≤ 60) && decide (97 ≤ (s[0]'hi).toNat) && decide ((s[0]'hi).toNat ≤ 122) && decide (Lib.idxFunc oddK true s < 0))) := by
      unfold nameB
      rw [hc]
      exact rfl
    replace hc := Lib.hid hc
    by_cases h1 : s.size ≤ 60
    · have k1 : (s.size : Int) ≤ 60 := by omega
      by_cases h2 : 97 ≤ (s[0]'hi).toNat
      · have k2 : 97 ≤ ((s[0]'hi).toNat : Int) := by omega
        by_cases h3 : (s[0]'hi).toNat ≤ 122
        · have k3 : ((s[0]'hi).toNat : Int) ≤ 122 := by omega
          have hr : nameB s = decide (Lib.idxFunc oddK true s < 0) := by rw [HN.out]; simp [h1, h2, h3]
          rw [hr]
          generalize Lib.idxFunc oddK true s = I at HIDX
          clear HN hr
          go_enter Tryd.func25, Tryd.ntmps25
          go_wp2_with (go_at_call 39; refine (HIDX.out _).mono ?_; rintro e w' ⟨rfl, hb⟩)
          go_ret
          exact ⟨rfl, hb⟩
        · have k3 : ¬ ((s[0]'hi).toNat : Int) ≤ 122 := by omega
          have hr : nameB s = false := by rw [HN.out]; simp [h3]
          rw [hr]
          clear HN hr HIDX
          go_enter Tryd.func25, Tryd.ntmps25
          go_wp2_with fail
          go_ret
          exact ⟨rfl, Below.refl _ _⟩
      · have k2 : ¬ 97 ≤ ((s[0]'hi).toNat : Int) := by omega
        have hr : nameB s = false := by rw [HN.out]; simp [h2]
        rw [hr]
        clear HN hr HIDX
        go_enter Tryd.func25, Tryd.ntmps25
        go_wp2_with fail
        go_ret
        exact ⟨rfl, Below.refl _ _⟩
    · have k1 : ¬ (s.size : Int) ≤ 60 := by omega
      have hr : nameB s = false := by rw [HN.out]; simp [h1]
      rw [hr]
      clear HN hr HIDX
      go_enter Tryd.func25, Tryd.ntmps25
      go_wp2_with fail
      go_ret
      exact ⟨rfl, Below.refl _ _⟩

/-- Is a text too long? -/
theorem long_c (s : ByteArray) (w : World) : FnGives Tryd.prog 24 #[] #[.string s] (.bool (decide (200 < s.size))) w := by
  unfold FnGives
  have H : (200 < (s.size : Int) ∧ decide (200 < s.size) = true) ∨ (¬ 200 < (s.size : Int) ∧ decide (200 < s.size) = false) := by
    by_cases h : 200 < s.size
    · exact .inl ⟨by omega, decide_eq_true h⟩
    · exact .inr ⟨by omega, decide_eq_false h⟩
  generalize decide (200 < s.size) = x at H
  rcases H with ⟨h1, rfl⟩ | ⟨h1, rfl⟩
  all_goals
    go_enter Tryd.func24, Tryd.ntmps24
    go_wp2_with fail
    go_ret
    exact ⟨rfl, 0, rfl⟩
theorem enters24 : ∀ args w, (callFunc 24 args).run Tryd.prog w = .ok (.enter 24 args) w := fun args w => by kernel_rfl

/-- Is one of texts too long? -/
theorem anyLong_c (l : List ByteArray) (a : Option Addr) (n c : Nat) (S : Nat → Prop) (w : World) (h : StrsV w S l (.slice a n c)) :
    Calls Tryd.prog 27 #[.slice a n c, .func (.func 24) #[] #[]] w fun e w' => e = .returned (.bool (l.any fun s => decide (200 < s.size))) ∧ Below w.heap.size w w' := by
  have hln := h.len
  obtain ⟨a2, c2, he, hs, hn, hin⟩ := h
  injection he with h1 h2 h3
  subst h1 h3
  by_cases h0 : l = []
  · subst h0
    obtain rfl : n = 0 := by rw [← hln]; rfl
    exact (AnyE.slices_ContainsFunc_empty Tryd.layAnyS a c _ w).mono fun e w' ⟨h1, h2⟩ => ⟨h1, by rw [h2]; exact Below.refl _ _⟩
  · obtain ⟨b, off, rfl, hb, hc⟩ := hin h0
    have hm : n ≤ 9223372036854775807 := by omega
    refine (AnyE.slices_ContainsFunc Tryd.layAnyS (fun s : ByteArray => .string s) (fun s => decide (200 < s.size)) 24 #[] enters24 b off n c l w (fun W x _ => long_c x W) (by omega) hm (fun j hj => ?_)).mono fun e w' ⟨h1, q, h2⟩ => ⟨?_, by rw [h2]; exact below_dr (Below.refl _ _) q⟩
    · rw [hc j hj, getElem!_pos l j hj]
    · rw [h1, List.take_of_length_le (by omega)]
theorem cloneS_c (l : List ByteArray) (a : Option Addr) (n c : Nat) (S : Nat → Prop) (w : World) (h : StrsV w S l (.slice a n c)) :
    Calls Tryd.prog 28 #[.slice a n c] w fun e w' => (∃ a' c', e = .returned (.slice a' n c') ∧ StrsV w' (fun b => w.heap.size ≤ b) l (.slice a' n c')) ∧ Below w.heap.size w w' := by
  have hln := h.len
  obtain ⟨a2, c2, he, hs, hn, hin⟩ := h
  injection he with h1 h2 h3
  subst h1 h3
  rw [hln] at hn
  by_cases h0 : l = []
  · subst h0
    obtain rfl : n = 0 := by rw [← hln]; rfl
    cases a with
    | none =>
      refine (Any.slices_Clone_string_nil Tryd.layCloneS 0 c w).mono fun e w' ⟨he, hw⟩ => ?_
      subst hw
      exact ⟨⟨none, 0, he, none, 0, rfl, hs, by simp, fun h => absurd rfl h⟩, Below.refl _ _⟩
    | some a =>
      refine (Any.slices_Clone_string_zero Tryd.layCloneS a c w).mono fun e w' ⟨v', he, hown, hnil, hb⟩ => ?_
      obtain ⟨a', c', rfl⟩ : ∃ a' c', v' = .slice a' 0 c' := by
        rcases hown.2 with ⟨h, _⟩ | ⟨g, cap, cur, h, _⟩
        · exact ⟨none, 0, h⟩
        · exact ⟨_, cap, h⟩
      exact ⟨⟨a', c', he, a', c', rfl, hs, by simp, fun h => absurd rfl h⟩, hb⟩
  · obtain ⟨b, off, rfl, hb, hc⟩ := hin h0
    refine (Any.slices_Clone_string Tryd.layCloneS b off n c l w (by omega) hn (fun j hj => by rw [hc j hj]; simp [List.getD, hj])).mono fun e w' ⟨v', he, hown, hnil, hb'⟩ => ?_
    rcases hown.2 with ⟨hv, _⟩ | ⟨g, cap, cur, hv, hg, hcell, hcap, _, hsz, htake⟩
    · exact absurd hv hnil
    · subst hv
      refine ⟨⟨_, cap, he, _, cap, by rw [hln], hs, by omega, fun _ => ⟨g, 0, rfl, hg, fun i hi => ?_⟩⟩, hb'⟩
      refine cell_of hcell ?_
      have h5 : (((l.take n).map Value.string))[i]? = some (.string l[i]) := by
        rw [List.take_of_length_le (by omega), List.getElem?_map, List.getElem?_eq_getElem hi]
        rfl
      have htake' : cur.toList.take (n * 1) = (l.take n).map Value.string := htake
      rw [← htake', List.getElem?_take_of_lt (by omega)] at h5
      rw [Nat.zero_add, ← Array.getElem?_toList]
      exact h5

end Go.Proofs.YtnplmembdfklcaaDoor
