/-
  A name: the contract. Helper text; the conditions are those typed.
  A name, the loop; the contract whole. Helper text; the conditions are those typed.
  A name, as the document has it: the contract. Helper text; the conditions are those typed.
-/
import Derived.Test.YtjcefgjgjhdbpaaGreatDoorDepMem
import Derived.Test.YtjcefgjgjhdbpaaGreatDoorShelf
import Derived.Deep.LoopGhost
namespace Go.Proofs.YtjcefgjgjhdbpaaGreatDoor
set_option linter.unusedVariables false
set_option linter.unusedSimpArgs false
open Go.RowKit

theorem signs_c (w : World) : Calls Tryz.prog 103 #[] w fun e w' => e = .returned (.slice (some ⟨w.heap.size, 0, none⟩) 8 8) ∧ w' = w.alloc (.cells (signsL.map Value.string).toArray 9) := by
  go_enter Tryz.func103, Tryz.ntmps103
  go_wp2
  go_ret
  exact ⟨rfl, rfl⟩
theorem words_c (w : World) : Calls Tryz.prog 104 #[] w fun e w' => e = .returned (.slice (some ⟨w.heap.size, 0, none⟩) 7 7) ∧ w' = w.alloc (.cells (wordsL.map Value.string).toArray 9) := by
  go_enter Tryz.func104, Tryz.ntmps104
  go_wp2
  go_ret
  exact ⟨rfl, rfl⟩

theorem cell_list (w : World) (l : List Value) (t : TypeId) (j : Nat) (h : j < l.length) : (w.alloc (.cells l.toArray t)).cell? ⟨w.heap.size, j, none⟩ = some l[j] := by
  have := heap_alloc_new w (.cells l.toArray t)
  unfold World.cell?
  simp only [this]
  simp [h]

/-- signs(), then slices.Contains. -/
theorem hasS_c (zs : List ByteArray) (x : ByteArray) (w : World) (n : Nat) (hn : zs.length = n) (hb : n ≤ 100) :
    Calls Tryz.prog 102 #[.slice (some ⟨w.heap.size, 0, none⟩) n n, .string x] (w.alloc (.cells (zs.map Value.string).toArray 9)) fun e w' => e = .returned (.bool (Lib.containsS zs x)) ∧ w' = w.alloc (.cells (zs.map Value.string).toArray 9) := by
  have hc : ∀ j, j < zs.length → (w.alloc (.cells (zs.map Value.string).toArray 9)).cell? ⟨w.heap.size, 0 + j, none⟩ = some (.string (zs.getD j ByteArray.empty)) := by
    intro j hj
    have := cell_list w (zs.map Value.string) 9 j (by simpa using hj)
    rw [Nat.zero_add, this]
    simp [List.getD, hj]
  subst hn
  exact (Any.slices_Contains_string Tryz.layContainsS w.heap.size 0 zs.length zs.length zs x _ (Nat.le_refl _) (by omega) hc).mono fun e w' ⟨h1, h2⟩ => ⟨by rw [h1, List.take_length], h2⟩

theorem name_a (s : ByteArray) (w : World) (h : s.size = 0) : Calls Tryz.prog 67 #[.string s] w fun e w' => e = .returned (.bool false) ∧ Below w.heap.size w w' := by
  obtain rfl := bs_zero h
  go_enter Tryz.func67, Tryz.ntmps67
  go_wp2
  go_ret
  exact ⟨rfl, Below.refl _ _⟩
theorem name_b (s : ByteArray) (w : World) (h : 60 < s.size) : Calls Tryz.prog 67 #[.string s] w fun e w' => e = .returned (.bool false) ∧ Below w.heap.size w w' := by
  have he := bs_nonempty (s := s) (by omega)
  have h60' : (60 : Int) < (s.size : Int) := by omega
  go_enter Tryz.func67, Tryz.ntmps67
  go_wp2
  go_ret
  exact ⟨rfl, Below.refl _ _⟩

theorem u8b {a b : UInt8} (h : a ≠ b) : ((a.toNat : Int) == (b.toNat : Int)) = false := by
  rw [beq_eq_false_iff_ne]
  intro e
  exact h (UInt8.toNat_inj.1 (by omega))
theorem name_c1 (s : ByteArray) (w : World) (h : s.size ≤ 60) (h0 : 0 < s.size) (h1 : s[0] = 40) : Calls Tryz.prog 67 #[.string s] w fun e w' => e = .returned (.bool false) ∧ Below w.heap.size w w' := by
  have he := bs_nonempty (s := s) (by omega)
  have h60' : ¬ (60 : Int) < (s.size : Int) := by omega
  have hB1 : ((s[0].toNat : Int) == 40) = true := by rw [h1]; rfl
  clear h1
  go_enter Tryz.func67, Tryz.ntmps67
  go_wp2_with fail
  go_ret
  exact ⟨rfl, Below.refl _ _⟩
theorem name_c2 (s : ByteArray) (w : World) (h : s.size ≤ 60) (h0 : 0 < s.size) (h1 : s[0] ≠ 40) (h2 : s[0] = 41) : Calls Tryz.prog 67 #[.string s] w fun e w' => e = .returned (.bool false) ∧ Below w.heap.size w w' := by
  have he := bs_nonempty (s := s) (by omega)
  have h60' : ¬ (60 : Int) < (s.size : Int) := by omega
  have hB1 : ((s[0].toNat : Int) == 40) = false := u8b h1
  have hB2 : ((s[0].toNat : Int) == 41) = true := by rw [h2]; rfl
  clear h1 h2
  go_enter Tryz.func67, Tryz.ntmps67
  go_wp2_with fail
  go_ret
  exact ⟨rfl, Below.refl _ _⟩
theorem name_c3 (s : ByteArray) (w : World) (h : s.size ≤ 60) (h0 : 0 < s.size) (h1 : s[0] ≠ 40) (h2 : s[0] ≠ 41) (hB3 : (s.toList == [101, 108, 115, 101]) = true) : Calls Tryz.prog 67 #[.string s] w fun e w' => e = .returned (.bool false) ∧ Below w.heap.size w w' := by
  have he := bs_nonempty (s := s) (by omega)
  have h60' : ¬ (60 : Int) < (s.size : Int) := by omega
  have hB1 : ((s[0].toNat : Int) == 40) = false := u8b h1
  have hB2 : ((s[0].toNat : Int) == 41) = false := u8b h2
  clear h1 h2
  go_enter Tryz.func67, Tryz.ntmps67
  go_wp2_with fail
  go_ret
  exact ⟨rfl, Below.refl _ _⟩
theorem name_c4 (s : ByteArray) (w : World) (h : s.size ≤ 60) (h0 : 0 < s.size) (h1 : s[0] ≠ 40) (h2 : s[0] ≠ 41) (hB3 : (s.toList == [101, 108, 115, 101]) = false) (h4 : Lib.containsS signsL s = true) : Calls Tryz.prog 67 #[.string s] w fun e w' => e = .returned (.bool false) ∧ Below w.heap.size w w' := by
  have he := bs_nonempty (s := s) (by omega)
  have h60' : ¬ (60 : Int) < (s.size : Int) := by omega
  have hB1 : ((s[0].toNat : Int) == 40) = false := u8b h1
  have hB2 : ((s[0].toNat : Int) == 41) = false := u8b h2
  have HA := Lib.hid (hasS_c signsL s w 8 rfl (by omega))
  rw [h4] at HA
  clear h1 h2 h4
  go_enter Tryz.func67, Tryz.ntmps67
  go_wp2_with fail
  refine (signs_c w).mono ?_
  rintro e w1 ⟨rfl, e1⟩
  cases e1
  go_wp2_with fail
  refine (HA.out).mono ?_
  rintro e w1 ⟨rfl, e1⟩
  cases e1
  go_wp2_with fail
  go_ret
  exact ⟨rfl, below1 _ _⟩
theorem name_c5 (s : ByteArray) (w : World) (h : s.size ≤ 60) (h0 : 0 < s.size) (h1 : s[0] ≠ 40) (h2 : s[0] ≠ 41) (hB3 : (s.toList == [101, 108, 115, 101]) = false) (h4 : Lib.containsS signsL s = false) (h5 : Lib.containsS wordsL s = true) : Calls Tryz.prog 67 #[.string s] w fun e w' => e = .returned (.bool false) ∧ Below w.heap.size w w' := by
  have he := bs_nonempty (s := s) (by omega)
  have h60' : ¬ (60 : Int) < (s.size : Int) := by omega
  have hB1 : ((s[0].toNat : Int) == 40) = false := u8b h1
  have hB2 : ((s[0].toNat : Int) == 41) = false := u8b h2
  have HA := Lib.hid (hasS_c signsL s w 8 rfl (by omega))
  rw [h4] at HA
  clear h1 h2 h4
  go_enter Tryz.func67, Tryz.ntmps67
  go_wp2_with fail
  refine (signs_c w).mono ?_
  rintro e w1 ⟨rfl, e1⟩
  cases e1
  go_wp2_with fail
  refine (HA.out).mono ?_
  rintro e w1 ⟨rfl, e1⟩
  cases e1
  obtain ⟨w2, e2⟩ : ∃ w2, w.alloc (.cells (signsL.map Value.string).toArray 9) = w2 := ⟨_, rfl⟩
  have hb : Hid (Below w.heap.size w w2) := by rw [← e2]; exact below1 _ _
  rw [e2]
  clear e2 HA
  have HW := Lib.hid (hasS_c wordsL s w2 7 rfl (by omega))
  rw [h5] at HW
  clear h5
  go_wp2_with fail
  refine (words_c w2).mono ?_
  rintro e w1 ⟨rfl, e1⟩
  cases e1
  go_wp2_with fail
  refine (HW.out).mono ?_
  rintro e w1 ⟨rfl, e1⟩
  cases e1
  go_wp2_with fail
  go_ret
  exact ⟨rfl, hb.alloc hb.size _⟩
end Go.Proofs.YtjcefgjgjhdbpaaGreatDoor
namespace Go.Proofs.YtjcefgjgjhdbpaaGreatDoor
set_option linter.unusedVariables false
set_option linter.unusedSimpArgs false
open Go.RowKit

theorem paren_at {s : ByteArray} {k : Nat} (hk : k < s.size) (o : Nat) : paren o ((bs s).drop k) =
    if s[k].toNat < 33 ∨ 126 < s[k].toNat then false else if s[k] = 40 then paren (o + 1) ((bs s).drop (k + 1)) else if s[k] = 41 then (match o with | 0 => false | o + 1 => paren o ((bs s).drop (k + 1))) else paren o ((bs s).drop (k + 1)) := by
  have hl : k < (bs s).length := by rw [bs_length]; exact hk
  rw [List.drop_eq_getElem_cons hl]
  rfl
theorem paren_end {s : ByteArray} (o : Nat) : paren o ((bs s).drop s.size) = (o == 0) := by
  rw [← bs_length, List.drop_length]
  rfl

set_option maxHeartbeats 4000000 in
theorem name_d (s : ByteArray) (w : World) (h : s.size ≤ 60) (h0 : 0 < s.size) (h1 : s[0] ≠ 40) (h2 : s[0] ≠ 41) (hB3 : (s.toList == [101, 108, 115, 101]) = false) (h4 : Lib.containsS signsL s = false) (h5 : Lib.containsS wordsL s = false) :
    Calls Tryz.prog 67 #[.string s] w fun e w' => e = .returned (.bool (paren 0 (bs s))) ∧ Below w.heap.size w w' := by
  have he := bs_nonempty (s := s) (by omega)
  have h60' : ¬ (60 : Int) < (s.size : Int) := by omega
  have hB1 : ((s[0].toNat : Int) == 40) = false := u8b h1
  have hB2 : ((s[0].toNat : Int) == 41) = false := u8b h2
  have HA := Lib.hid (hasS_c signsL s w 8 rfl (by omega))
  rw [h4] at HA
  clear h1 h2 h4
  go_enter Tryz.func67, Tryz.ntmps67
  go_wp2_with fail
  refine (signs_c w).mono ?_
  rintro e w1 ⟨rfl, e1⟩
  cases e1
  go_wp2_with fail
  refine (HA.out).mono ?_
  rintro e w1 ⟨rfl, e1⟩
  cases e1
  obtain ⟨w2, e2⟩ : ∃ w2, w.alloc (.cells (signsL.map Value.string).toArray 9) = w2 := ⟨_, rfl⟩
  have hb : Hid (Below w.heap.size w w2) := by rw [← e2]; exact below1 _ _
  rw [e2]
  clear e2 HA
  have HW := Lib.hid (hasS_c wordsL s w2 7 rfl (by omega))
  rw [h5] at HW
  clear h5
  go_wp2_with fail
  refine (words_c w2).mono ?_
  rintro e w1 ⟨rfl, e1⟩
  cases e1
  go_wp2_with fail
  refine (HW.out).mono ?_
  rintro e w1 ⟨rfl, e1⟩
  cases e1
  have hb3 : Hid (Below w.heap.size w (w2.alloc (.cells (wordsL.map Value.string).toArray 9))) := hb.alloc hb.size _
  obtain ⟨w3, e3⟩ : ∃ w3, w2.alloc (.cells (wordsL.map Value.string).toArray 9) = w3 := ⟨_, rfl⟩
  rw [e3]
  rw [e3] at hb3
  clear e3 HW hb hB1 hB2 hB3
  go_wp2_with fail
  go_loopw [3, 39] (fun vo vi wr => ∃ o k : Nat, vo = .int .i64 o ∧ vi = .int .i64 k ∧ o ≤ k ∧ k ≤ s.size ∧ w3 = wr ∧ Hid (paren 0 (bs s) = paren o ((bs s).drop k))) (fun _ vi _ => s.size - (intOf vi).toNat)
  case atStart => exact ⟨0, 0, rfl, rfl, Nat.le_refl _, Nat.zero_le _, rfl, rfl⟩
  case round =>
    obtain ⟨o, k, rfl, rfl, hok, hks, rfl, HP⟩ := hrel
    by_cases hlt : k < s.size
    · have hi1 : (k : Int) < (s.size : Int) := by omega
      have hi2 : (k : Int) + 1 ≤ 60 := by omega
      have hi3 : (o : Int) + 1 ≤ 60 := by omega
      have hp := paren_at hlt o
      rw [← HP.out] at hp
      replace hp := Lib.hid hp
      clear HP
      by_cases c1 : s[k].toNat < 33
      · replace hp : Hid (paren 0 (bs s) = false) := by have := hp.out; rwa [if_pos (.inl c1)] at this
        have hj : ((s[k].toNat : Int) < 33) := by omega
        clear c1
        go_wp2
        go_ret
        exact ⟨by rw [hp.out]; rfl, hb3.out⟩
      · have hj : ¬ ((s[k].toNat : Int) < 33) := by omega
        by_cases c2 : 126 < s[k].toNat
        · replace hp : Hid (paren 0 (bs s) = false) := by have := hp.out; rwa [if_pos (.inr c2)] at this
          have hj2 : (126 < (s[k].toNat : Int)) := by omega
          clear c1 c2
          go_wp2
          go_ret
          exact ⟨by rw [hp.out]; rfl, hb3.out⟩
        · have hj2 : ¬ (126 < (s[k].toNat : Int)) := by omega
          replace hp := hp.out
          rw [if_neg (by omega)] at hp
          clear c1 c2
          by_cases c3 : s[k] = 40
          · rw [if_pos c3] at hp
            replace hp := Lib.hid hp
            have hB : ((s[k].toNat : Int) == 40) = true := by rw [c3]; rfl
            clear c3
            go_wp2
            go_roundw
            case rel => exact ⟨o + 1, k + 1, by go_num, by go_num, by omega, by omega, trivial, hp⟩
            case measure => simp [intOf]; omega
          · rw [if_neg c3] at hp
            have hB : ((s[k].toNat : Int) == 40) = false := u8b c3
            clear c3
            by_cases c4 : s[k] = 41
            · rw [if_pos c4] at hp
              have hB' : ((s[k].toNat : Int) == 41) = true := by rw [c4]; rfl
              clear c4
              by_cases ho : o = 0
              · replace hp : Hid (paren 0 (bs s) = false) := by rw [ho] at hp; exact hp
                subst ho
                have hn : ((0 : Int) - 1 < 0) := by omega
                go_wp2
                go_ret
                exact ⟨by rw [hp.out]; rfl, hb3.out⟩
              · obtain ⟨q, hq⟩ : ∃ q : Nat, o = q + 1 := ⟨o - 1, by omega⟩
                replace hp : Hid (paren 0 (bs s) = paren q ((bs s).drop (k + 1))) := by rw [hq] at hp; exact hp
                have hn : ¬ ((o : Int) - 1 < 0) := by omega
                have hn2 : (o : Int) - 1 = (q : Int) := by omega
                have hn3 : ¬ ((q : Int) < 0) := by omega
                have hn4 : Hid (q ≤ k + 1) := by show q ≤ k + 1; omega
                clear ho hq
                go_wp2
                go_roundw
                case rel => exact ⟨q, k + 1, by first | rfl | (rw [hn2]; done) | go_num, by go_num, hn4.out, by omega, trivial, hp⟩
                case measure => simp [intOf]; omega
            · rw [if_neg c4] at hp
              replace hp := Lib.hid hp
              have hB' : ((s[k].toNat : Int) == 41) = false := u8b c4
              have hn : ¬ ((o : Int) < 0) := by omega
              clear c4
              go_wp2
              go_roundw
              case rel => exact ⟨o, k + 1, by go_num, by go_num, by omega, by omega, trivial, hp⟩
              case measure => simp [intOf]; omega
    · have hi1 : ¬ (k : Int) < (s.size : Int) := by omega
      have hk : k = s.size := by omega
      have hq := HP.out
      rw [hk, paren_end] at hq
      have hp : Hid (paren 0 (bs s) = ((o : Int) == 0)) := by
        rw [hq]
        cases o <;> rfl
      clear HP hk hq
      go_wp2
      go_ret
      exact ⟨by rw [hp.out]; rfl, hb3.out⟩

/-- dep.Name. -/
theorem name_c (s : ByteArray) (w : World) : Calls Tryz.prog 67 #[.string s] w fun e w' => e = .returned (.bool (nameB s)) ∧ Below w.heap.size w w' := by
  have hfalse : ∀ {b : Bool}, b = false → nameB s = b → nameB s = false := fun h e => e.trans h
  by_cases h0 : s.size = 0
  · rw [show nameB s = false by simp [nameB, h0]]
    exact name_a s w h0
  by_cases h60 : s.size ≤ 60
  · have hp : 0 < s.size := by omega
    have hh : (bs s).head? = some s[0] := by
      have hl : 0 < (bs s).length := by rw [bs_length]; exact hp
      rw [List.head?_eq_getElem?, List.getElem?_eq_getElem hl]
      rfl
    by_cases c1 : s[0] = 40
    · rw [show nameB s = false by simp [nameB, hh, c1]]
      exact name_c1 s w h60 hp c1
    by_cases c2 : s[0] = 41
    · rw [show nameB s = false by simp [nameB, hh, c2]]
      exact name_c2 s w h60 hp c1 c2
    cases c3 : s.toList == [101, 108, 115, 101] with
    | true =>
      rw [show nameB s = false by simp only [nameB, c3]; simp]
      exact name_c3 s w h60 hp c1 c2 c3
    | false =>
      cases c4 : Lib.containsS signsL s with
      | true =>
        rw [show nameB s = false by simp only [nameB, c4]; simp]
        exact name_c4 s w h60 hp c1 c2 c3 c4
      | false =>
        cases c5 : Lib.containsS wordsL s with
        | true =>
          rw [show nameB s = false by simp only [nameB, c5]; simp]
          exact name_c5 s w h60 hp c1 c2 c3 c4 c5
        | false =>
          rw [show nameB s = paren 0 (bs s) by simp only [nameB, c3, c4, c5]; simp [h0, h60, hh, c1, c2]]
          exact name_d s w h60 hp c1 c2 c3 c4 c5
  · rw [show nameB s = false by simp [nameB, h60]]
    exact name_b s w (by omega)
end Go.Proofs.YtjcefgjgjhdbpaaGreatDoor
namespace Go.Proofs.YtjcefgjgjhdbpaaGreatDoor
set_option linter.unusedVariables false
set_option linter.unusedSimpArgs false
open Go.RowKit

def wordR (s : ByteArray) : Bool := s.toList == [97, 110, 100] || s.toList == [111, 114] || s.toList == [105, 102] || s.toList == [101, 108, 115, 101] || s.toList == [119, 105, 116, 104] || s.toList == [119, 105, 116, 104, 111, 117, 116]
def signR (s : ByteArray) : Int :=
  if s.toList == [60] then 1 else if s.toList == [61] then 2 else if s.toList == [60, 61] then 3 else if s.toList == [62] then 4 else if s.toList == [60, 62] then 5 else if s.toList == [62, 61] then 6 else if s.toList == [60, 61, 62] then 7 else 0

theorem word_c (s : ByteArray) (w : World) : Calls Tryz.prog 112 #[.string s] w fun e w' => e = .returned (.bool (wordR s)) ∧ w = w' := by
  unfold wordR
  cases h1 : s.toList == [97, 110, 100] <;> cases h2 : s.toList == [111, 114] <;> cases h3 : s.toList == [105, 102] <;> cases h4 : s.toList == [101, 108, 115, 101] <;> cases h5 : s.toList == [119, 105, 116, 104] <;> cases h6 : s.toList == [119, 105, 116, 104, 111, 117, 116] <;>
    first
    | (exfalso; simp only [beq_iff_eq] at *; simp_all; done)
    | (go_enter Tryz.func112, Tryz.ntmps112; go_wp2; go_ret; exact ⟨rfl, rfl⟩)
theorem sign_c (s : ByteArray) (w : World) : Calls Tryz.prog 113 #[.string s] w fun e w' => e = .returned (.int .i64 (signR s)) ∧ w = w' := by
  unfold signR
  cases h1 : s.toList == [60]
  · cases h2 : s.toList == [61]
    · cases h3 : s.toList == [60, 61]
      · cases h4 : s.toList == [62]
        · cases h5 : s.toList == [60, 62]
          · cases h6 : s.toList == [62, 61]
            · cases h7 : s.toList == [60, 61, 62]
              · go_enter Tryz.func113, Tryz.ntmps113
                go_wp2
                go_ret
                exact ⟨rfl, rfl⟩
              · go_enter Tryz.func113, Tryz.ntmps113
                go_wp2
                go_ret
                exact ⟨rfl, rfl⟩
            · go_enter Tryz.func113, Tryz.ntmps113
              go_wp2
              go_ret
              exact ⟨rfl, rfl⟩
          · go_enter Tryz.func113, Tryz.ntmps113
            go_wp2
            go_ret
            exact ⟨rfl, rfl⟩
        · go_enter Tryz.func113, Tryz.ntmps113
          go_wp2
          go_ret
          exact ⟨rfl, rfl⟩
      · go_enter Tryz.func113, Tryz.ntmps113
        go_wp2
        go_ret
        exact ⟨rfl, rfl⟩
    · go_enter Tryz.func113, Tryz.ntmps113
      go_wp2
      go_ret
      exact ⟨rfl, rfl⟩
  · go_enter Tryz.func113, Tryz.ntmps113
    go_wp2
    go_ret
    exact ⟨rfl, rfl⟩

theorem eq_lit (s : ByteArray) (a : Array UInt8) : s = ⟨a⟩ ↔ s.toList = a.toList := by
  rw [bs_toList]
  constructor
  · rintro rfl; rfl
  · intro h
    have : s.data = a := Array.toList_inj.1 h
    cases s
    simp only at this
    rw [this]
theorem toList_nil {s : ByteArray} (h : 0 < s.size) : s.toList ≠ [] := by
  rw [bs_toList]
  intro e
  have := bs_nil.1 e
  omega
theorem word_has {s : ByteArray} (h : 0 < s.size) : wordR s = ((s.toList == [101, 108, 115, 101]) || Lib.containsS wordsL s) := by
  have hn := toList_nil h
  rw [Bool.eq_iff_iff]
  unfold wordR
  simp only [Bool.or_eq_true, Lib.containsS_iff]
  simp only [wordsL, List.mem_cons, List.not_mem_nil, or_false, eq_lit, Bool.or_eq_true, beq_iff_eq, hn, false_or]
  constructor
  · rintro (((((e | e) | e) | e) | e) | e) <;> simp [e]
  · rintro (e | e | e | e | e | e) <;> simp [e]
theorem sign_has {s : ByteArray} (h : 0 < s.size) : (signR s == 0) = !Lib.containsS signsL s := by
  have hn := toList_nil h
  rw [Bool.eq_iff_iff, Bool.not_eq_true', Bool.eq_false_iff, ne_eq, Lib.containsS_iff]
  simp only [signsL, List.mem_cons, List.not_mem_nil, or_false, eq_lit, hn, false_or]
  unfold signR
  simp only [beq_iff_eq]
  split <;> rename_i h1
  · simp [h1]
  split <;> rename_i h2
  · simp [h2]
  split <;> rename_i h3
  · simp [h3]
  split <;> rename_i h4
  · simp [h4]
  split <;> rename_i h5
  · simp [h5]
  split <;> rename_i h6
  · simp [h6]
  split <;> rename_i h7
  · simp [h7]
  simp [h1, h2, h3, h4, h5, h6, h7]

theorem rname_a (s : ByteArray) (w : World) (h : s.size = 0) : Calls Tryz.prog 75 #[.string s] w fun e w' => e = .returned (.bool false) ∧ w = w' := by
  obtain rfl := bs_zero h
  go_enter Tryz.func75, Tryz.ntmps75
  go_wp2_with fail
  refine (word_c _ _).mono ?_
  rintro e w1 ⟨rfl, rfl⟩
  go_wp2
  go_ret
  exact ⟨rfl, rfl⟩
theorem rname_b (s : ByteArray) (w : World) (h : 60 < s.size) : Calls Tryz.prog 75 #[.string s] w fun e w' => e = .returned (.bool false) ∧ w = w' := by
  have h1 : ¬ ((s.size : Int) < 1) := by omega
  have h60' : (60 : Int) < (s.size : Int) := by omega
  go_enter Tryz.func75, Tryz.ntmps75
  go_wp2_with fail
  refine (word_c _ _).mono ?_
  rintro e w1 ⟨rfl, rfl⟩
  go_wp2
  go_ret
  exact ⟨rfl, rfl⟩
theorem rname_c1 (s : ByteArray) (w : World) (h : s.size ≤ 60) (h0 : 0 < s.size) (h1 : s[0] = 40 ∨ s[0] = 41) : Calls Tryz.prog 75 #[.string s] w fun e w' => e = .returned (.bool false) ∧ w = w' := by
  have h1' : ¬ ((s.size : Int) < 1) := by omega
  have h60' : ¬ (60 : Int) < (s.size : Int) := by omega
  by_cases h2 : s[0] = 40
  · have hB1 : ((s[0].toNat : Int) == 40) = true := by rw [h2]; rfl
    clear h1 h2
    go_enter Tryz.func75, Tryz.ntmps75
    go_wp2_with fail
    refine (word_c _ _).mono ?_
    rintro e w1 ⟨rfl, rfl⟩
    go_wp2
    go_ret
    exact ⟨rfl, rfl⟩
  · have hB1 : ((s[0].toNat : Int) == 40) = false := u8b h2
    have hB2 : ((s[0].toNat : Int) == 41) = true := by rw [h1.resolve_left h2]; rfl
    clear h1 h2
    go_enter Tryz.func75, Tryz.ntmps75
    go_wp2_with fail
    refine (word_c _ _).mono ?_
    rintro e w1 ⟨rfl, rfl⟩
    go_wp2
    go_ret
    exact ⟨rfl, rfl⟩
theorem rname_c2 (s : ByteArray) (w : World) (h : s.size ≤ 60) (h0 : 0 < s.size) (h1 : s[0] ≠ 40) (h2 : s[0] ≠ 41) (h3 : wordR s = true) : Calls Tryz.prog 75 #[.string s] w fun e w' => e = .returned (.bool false) ∧ w = w' := by
  have h1' : ¬ ((s.size : Int) < 1) := by omega
  have h60' : ¬ (60 : Int) < (s.size : Int) := by omega
  have hB1 : ((s[0].toNat : Int) == 40) = false := u8b h1
  have hB2 : ((s[0].toNat : Int) == 41) = false := u8b h2
  have HW := word_c s w
  rw [h3] at HW
  clear h1 h2 h3
  go_enter Tryz.func75, Tryz.ntmps75
  go_wp2_with fail
  refine HW.mono ?_
  rintro e w1 ⟨rfl, rfl⟩
  go_wp2
  go_ret
  exact ⟨rfl, rfl⟩
theorem rname_c3 (s : ByteArray) (w : World) (h : s.size ≤ 60) (h0 : 0 < s.size) (h1 : s[0] ≠ 40) (h2 : s[0] ≠ 41) (h3 : wordR s = false) (h4 : (signR s == 0) = false) : Calls Tryz.prog 75 #[.string s] w fun e w' => e = .returned (.bool false) ∧ w = w' := by
  have h1' : ¬ ((s.size : Int) < 1) := by omega
  have h60' : ¬ (60 : Int) < (s.size : Int) := by omega
  have hB1 : ((s[0].toNat : Int) == 40) = false := u8b h1
  have hB2 : ((s[0].toNat : Int) == 41) = false := u8b h2
  have HW := word_c s w
  rw [h3] at HW
  have HS := Lib.hid (sign_c s)
  generalize signR s = g at HS h4
  have h4' : (g != 0) = true := by unfold bne; rw [h4]; rfl
  clear h1 h2 h3 h4
  go_enter Tryz.func75, Tryz.ntmps75
  go_wp2_with fail
  refine HW.mono ?_
  rintro e w1 ⟨rfl, rfl⟩
  go_wp2_with fail
  refine (HS.out _).mono ?_
  rintro e w1 ⟨rfl, rfl⟩
  go_wp2
  go_ret
  exact ⟨rfl, rfl⟩
set_option maxHeartbeats 1000000 in
theorem rname_d (s : ByteArray) (w : World) (h : s.size ≤ 60) (h0 : 0 < s.size) (h1 : s[0] ≠ 40) (h2 : s[0] ≠ 41) (h3 : wordR s = false) (h4 : (signR s == 0) = true) : Calls Tryz.prog 75 #[.string s] w fun e w' => e = .returned (.bool (paren 0 (bs s))) ∧ w = w' := by
  have h1' : ¬ ((s.size : Int) < 1) := by omega
  have h60' : ¬ (60 : Int) < (s.size : Int) := by omega
  have hB1 : ((s[0].toNat : Int) == 40) = false := u8b h1
  have hB2 : ((s[0].toNat : Int) == 41) = false := u8b h2
  have HW := word_c s w
  rw [h3] at HW
  have HS := Lib.hid (sign_c s)
  generalize signR s = g at HS h4
  have h4' : (g != 0) = false := by unfold bne; rw [h4]; rfl
  clear h1 h2 h3 h4
  go_enter Tryz.func75, Tryz.ntmps75
  go_wp2_with fail
  refine HW.mono ?_
  rintro e w1 ⟨rfl, rfl⟩
  go_wp2_with fail
  refine (HS.out _).mono ?_
  rintro e w1 ⟨rfl, rfl⟩
  clear HS HW hB1 hB2
  go_wp2_with fail
  go_loopw [4, 5] (fun vo vi wr => ∃ o k : Nat, vo = .int .i64 o ∧ vi = .int .i64 k ∧ o ≤ k ∧ k ≤ s.size ∧ w = wr ∧ Hid (paren 0 (bs s) = paren o ((bs s).drop k))) (fun _ vi _ => s.size - (intOf vi).toNat)
  case atStart => exact ⟨0, 0, rfl, rfl, Nat.le_refl _, Nat.zero_le _, rfl, rfl⟩
  case round =>
    obtain ⟨o, k, rfl, rfl, hok, hks, rfl, HP⟩ := hrel
    by_cases hlt : k < s.size
    · have hi1 : (k : Int) < (s.size : Int) := by omega
      have hi2 : (k : Int) + 1 ≤ 60 := by omega
      have hi3 : (o : Int) + 1 ≤ 60 := by omega
      have hp := paren_at hlt o
      rw [← HP.out] at hp
      replace hp := Lib.hid hp
      clear HP
      by_cases c1 : s[k].toNat < 33
      · replace hp : Hid (paren 0 (bs s) = false) := by have := hp.out; rwa [if_pos (.inl c1)] at this
        have hj : ((s[k].toNat : Int) < 33) := by omega
        clear c1
        go_wp2
        go_ret
        exact ⟨by rw [hp.out]; rfl, rfl⟩
      · have hj : ¬ ((s[k].toNat : Int) < 33) := by omega
        by_cases c2 : 126 < s[k].toNat
        · replace hp : Hid (paren 0 (bs s) = false) := by have := hp.out; rwa [if_pos (.inr c2)] at this
          have hj2 : (126 < (s[k].toNat : Int)) := by omega
          clear c1 c2
          go_wp2
          go_ret
          exact ⟨by rw [hp.out]; rfl, rfl⟩
        · have hj2 : ¬ (126 < (s[k].toNat : Int)) := by omega
          replace hp := hp.out
          rw [if_neg (by omega)] at hp
          clear c1 c2
          by_cases c3 : s[k] = 40
          · rw [if_pos c3] at hp
            replace hp := Lib.hid hp
            have hB : ((s[k].toNat : Int) == 40) = true := by rw [c3]; rfl
            have hB' : ((s[k].toNat : Int) == 41) = false := by rw [c3]; rfl
            have hn : ¬ ((o : Int) + 1 < 0) := by omega
            clear c3
            go_wp2
            go_roundw
            case rel => exact ⟨o + 1, k + 1, by go_num, by go_num, by omega, by omega, trivial, hp⟩
            case measure => simp [intOf]; omega
          · rw [if_neg c3] at hp
            have hB : ((s[k].toNat : Int) == 40) = false := u8b c3
            clear c3
            by_cases c4 : s[k] = 41
            · rw [if_pos c4] at hp
              have hB' : ((s[k].toNat : Int) == 41) = true := by rw [c4]; rfl
              clear c4
              by_cases ho : o = 0
              · replace hp : Hid (paren 0 (bs s) = false) := by rw [ho] at hp; exact hp
                subst ho
                have hn : ((0 : Int) - 1 < 0) := by omega
                go_wp2
                go_ret
                exact ⟨by rw [hp.out]; rfl, rfl⟩
              · obtain ⟨q, hq⟩ : ∃ q : Nat, o = q + 1 := ⟨o - 1, by omega⟩
                replace hp : Hid (paren 0 (bs s) = paren q ((bs s).drop (k + 1))) := by rw [hq] at hp; exact hp
                have hn : ¬ ((o : Int) - 1 < 0) := by omega
                have hn2 : (o : Int) - 1 = (q : Int) := by omega
                have hn3 : ¬ ((q : Int) < 0) := by omega
                have hn4 : Hid (q ≤ k + 1) := by show q ≤ k + 1; omega
                clear ho hq
                go_wp2
                go_roundw
                case rel => exact ⟨q, k + 1, by first | rfl | (rw [hn2]; done) | go_num, by go_num, hn4.out, by omega, trivial, hp⟩
                case measure => simp [intOf]; omega
            · rw [if_neg c4] at hp
              replace hp := Lib.hid hp
              have hB' : ((s[k].toNat : Int) == 41) = false := u8b c4
              have hn : ¬ ((o : Int) < 0) := by omega
              clear c4
              go_wp2
              go_roundw
              case rel => exact ⟨o, k + 1, by go_num, by go_num, by omega, by omega, trivial, hp⟩
              case measure => simp [intOf]; omega
    · have hi1 : ¬ (k : Int) < (s.size : Int) := by omega
      have hk : k = s.size := by omega
      have hq := HP.out
      rw [hk, paren_end] at hq
      have hp : Hid (paren 0 (bs s) = ((o : Int) == 0)) := by
        rw [hq]
        cases o <;> rfl
      clear HP hk hq
      go_wp2
      go_ret
      exact ⟨by rw [hp.out]; rfl, rfl⟩

/-- The document's Name. -/
theorem rname_c (s : ByteArray) (w : World) : Calls Tryz.prog 75 #[.string s] w fun e w' => e = .returned (.bool (nameB s)) ∧ w = w' := by
  by_cases h0 : s.size = 0
  · rw [show nameB s = false by simp [nameB, h0]]
    exact rname_a s w h0
  by_cases h60 : s.size ≤ 60
  · have hp : 0 < s.size := by omega
    have hh : (bs s).head? = some s[0] := by
      have hl : 0 < (bs s).length := by rw [bs_length]; exact hp
      rw [List.head?_eq_getElem?, List.getElem?_eq_getElem hl]
      rfl
    by_cases c1 : s[0] = 40
    · rw [show nameB s = false by simp [nameB, hh, c1]]
      exact rname_c1 s w h60 hp (.inl c1)
    by_cases c2 : s[0] = 41
    · rw [show nameB s = false by simp [nameB, hh, c2]]
      exact rname_c1 s w h60 hp (.inr c2)
    have e1 := word_has hp
    have e2 := sign_has hp
    cases c3 : wordR s with
    | true =>
      rw [c3] at e1
      rw [show nameB s = false by
        unfold nameB
        rcases Bool.or_eq_true _ _ ▸ e1.symm with h | h <;> rw [h] <;> simp]
      exact rname_c2 s w h60 hp c1 c2 c3
    | false =>
      rw [c3] at e1
      have e3 := Bool.or_eq_false_iff.1 e1.symm
      cases c4 : signR s == 0 with
      | false =>
        rw [c4] at e2
        rw [show nameB s = false by
          unfold nameB
          rw [show Lib.containsS signsL s = true by simpa using e2]
          simp]
        exact rname_c3 s w h60 hp c1 c2 c3 c4
      | true =>
        rw [c4] at e2
        rw [show nameB s = paren 0 (bs s) by
          unfold nameB
          rw [show Lib.containsS signsL s = false by simpa using e2, e3.1, e3.2]
          simp [h0, h60, hh, c1, c2]]
        exact rname_d s w h60 hp c1 c2 c3 c4
  · rw [show nameB s = false by simp [nameB, h60]]
    exact rname_b s w (by omega)
end Go.Proofs.YtjcefgjgjhdbpaaGreatDoor
