/-
  Cut, the bytes that may stand in a version: the contracts. Helper text; the conditions are those typed.
  Parse: the contract. Helper text (printed by gen_parse.py); the conditions are those typed.
  Boxes of three texts, what grows: helper text; no conditions beyond those typed.
-/
import Derived.Test.YtjcefgjgjhdbpaaGreatDoorWalkA
import Derived.Test.YtjcefgjgjhdbpaaGreatDoorShelf
import Derived.RegionTactic
import Derived.BigRegion
namespace Go.Proofs.YtjcefgjgjhdbpaaGreatDoor
set_option linter.unusedVariables false
set_option linter.unusedSimpArgs false
open Go.RowKit

/-- The place of a byte, as the library has it. -/
theorem indexByte_fi (c : UInt8) : ∀ l : List UInt8, Lib.indexByte l c = match fi c l with | some i => (i : Int) | none => -1
  | [] => rfl
  | x :: l => by
    unfold Lib.indexByte fi
    rw [indexByte_fi c l]
    by_cases h : x = c
    · subst h; simp
    · rw [if_neg (by simpa using h), if_neg h]
      cases fi c l with
      | none => simp
      | some i =>
        simp only [Option.map_some]
        rw [if_neg (by first | (simp; done) | (simp; omega))]
        rfl

theorem index_c (s : ByteArray) (c : UInt8) (w : World) : Calls Tryz.prog 81 #[.string s, .string ⟨#[c]⟩] w fun e w' => e = .returned (.int .i64 (Lib.indexByte (bs s) c)) ∧ w = w' :=
  (Any.stringslite_Index_one Tryz.layIndex s c w).mono fun _ _ ⟨h1, h2⟩ => ⟨h1, h2.symm⟩
theorem indexByte_c (s : ByteArray) (c : UInt8) (w : World) : Calls Tryz.prog 99 #[.string s, .int .u8 (c.toNat : Int)] w fun e w' => e = .returned (.int .i64 (Lib.indexByte (bs s) c)) ∧ w = w' :=
  (Any.strings_IndexByte Tryz.layIndexByte s (c.toNat : Int) w).mono fun _ _ ⟨h1, h2⟩ => ⟨by rw [h1]; simp, h2.symm⟩
theorem contains_c (s : ByteArray) (c : UInt8) (w : World) : Calls Tryz.prog 101 #[.string s, .string ⟨#[c]⟩] w fun e w' => e = .returned (.bool (decide (c ∈ bs s))) ∧ w = w' :=
  (Any.strings_Contains_one Tryz.layContains s c w).mono fun _ _ ⟨h1, h2⟩ => ⟨by
    rw [h1, indexByte_fi]
    have := @fi_none c (bs s)
    cases h : fi c (bs s) with
    | none => simp [this.1 h]
    | some i =>
      have hm : c ∈ bs s := by
        apply Decidable.byContradiction
        intro hn
        rw [this.2 hn] at h
        cases h
      simp [hm], h2.symm⟩

theorem lcut_yes (s : ByteArray) (c : UInt8) (i : Nat) (hi : fi c (bs s) = some i) (hs : s.size ≤ 9223372036854775807) (w : World) :
    Calls Tryz.prog 43 #[.string s, .string ⟨#[c]⟩] w fun e w' => e = .returned (.tuple #[.string (s.extract 0 i), .string (s.extract (i + 1) s.size), .bool true]) ∧ ∃ n, w' = w.drewN n := by
  have hc := index_c s c
  rw [indexByte_fi, hi] at hc
  have hil : i < s.size := by
    obtain ⟨h, _⟩ := fi_some.1 hi
    rw [bs_length] at h
    exact h
  have HC := Lib.hid hc
  clear hc hi
  have h0 : (0 : Int) ≤ (i : Int) := by omega
  have h1 : (i : Int) ≤ (s.size : Int) := by omega
  have h2 : (i : Int) + 1 ≤ (s.size : Int) := by omega
  have h3 : (⟨#[c]⟩ : ByteArray).size = 1 := rfl
  generalize (⟨#[c]⟩ : ByteArray) = sep at HC h3
  have hs1 : ((sep.size : Nat) : Int) = 1 := by rw [h3]; rfl
  clear h3
  go_enter Tryz.func43, Tryz.ntmps43
  go_wp2_with fail
  refine (HC.out _).mono ?_
  rintro e w' ⟨rfl, rfl⟩
  go_wp2
  go_quiet (fail)
  go_wp2
  go_ret3
  exact ⟨rfl, nq, rfl⟩
/-- Cut at a byte that is there. -/
theorem cut_yes (s : ByteArray) (c : UInt8) (i : Nat) (hi : fi c (bs s) = some i) (hs : s.size ≤ 9223372036854775807) (w : World) :
    Calls Tryz.prog 14 #[.string s, .string ⟨#[c]⟩] w fun e w' => e = .returned (.tuple #[.string (s.extract 0 i), .string (s.extract (i + 1) s.size), .bool true]) ∧ ∃ n, w' = w.drewN n := by
  have HC := Lib.hid (lcut_yes s c i hi hs)
  clear hi
  go_enter Tryz.func14, Tryz.ntmps14
  go_wp2_with fail
  refine (HC.out _).mono ?_
  rintro e w' ⟨rfl, n, rfl⟩
  go_wp2
  go_ret3
  exact ⟨rfl, n, rfl⟩
theorem lcut_no (s : ByteArray) (c : UInt8) (hi : fi c (bs s) = none) (w : World) :
    Calls Tryz.prog 43 #[.string s, .string ⟨#[c]⟩] w fun e w' => e = .returned (.tuple #[.string s, .string ⟨#[]⟩, .bool false]) ∧ w = w' := by
  have hc := index_c s c
  rw [indexByte_fi, hi] at hc
  have HC := Lib.hid hc
  clear hc hi
  go_enter Tryz.func43, Tryz.ntmps43
  go_wp2_with fail
  refine (HC.out _).mono ?_
  rintro e w' ⟨rfl, rfl⟩
  go_wp2
  go_ret3
  exact ⟨rfl, rfl⟩
theorem cut_no (s : ByteArray) (c : UInt8) (hi : fi c (bs s) = none) (w : World) :
    Calls Tryz.prog 14 #[.string s, .string ⟨#[c]⟩] w fun e w' => e = .returned (.tuple #[.string s, .string ⟨#[]⟩, .bool false]) ∧ w = w' := by
  have HC := Lib.hid (lcut_no s c hi)
  clear hi
  go_enter Tryz.func14, Tryz.ntmps14
  go_wp2_with fail
  refine (HC.out _).mono ?_
  rintro e w' ⟨rfl, rfl⟩
  go_wp2
  go_ret3
  exact ⟨rfl, rfl⟩

/-- The last place of a byte, as the library has it. -/
theorem last_li (s : ByteArray) (c : UInt8) : Lib.lastIndexByte s (c.toNat : Int) = match li c (bs s) with | some i => (i : Int) | none => -1 := by
  have hsz : s.data.size = s.size := rfl
  have hg : ∀ j (h : j < (bs s).length), s.data[j]! = (bs s)[j] := by
    intro j h
    have h' : j < s.data.size := by rw [bs_length] at h; exact h
    rw [getElem!_pos s.data j h']
    rfl
  have hn : ∀ {a b : UInt8}, ((a.toNat : Nat) : Int) = ((b.toNat : Nat) : Int) → a = b := fun h => UInt8.toNat_inj.1 (by omega)
  rcases Lib.lastIndexByte_spec s (c.toNat : Int) with ⟨e, hno⟩ | ⟨i, hi, e, hc, hno⟩
  · have : li c (bs s) = none := by
      rw [li_none]
      intro hm
      obtain ⟨j, hj, hj2⟩ := List.getElem_of_mem hm
      have := hno j (by rw [bs_length] at hj; exact hj)
      rw [hg j hj, hj2] at this
      exact this rfl
    rw [e, this]
  · have hi' : i < (bs s).length := by rw [bs_length]; exact hi
    have : li c (bs s) = some i := by
      rw [li_some]
      refine ⟨hi', ?_, fun j hj hij => ?_⟩
      · rw [hg i hi'] at hc
        exact hn hc
      · intro hjc
        have := hno j hij (by rw [bs_length] at hj; exact hj)
        rw [hg j hj, hjc] at this
        exact this rfl
    rw [e, this]

theorem last_c (s : ByteArray) (c : UInt8) (hs : s.size < 4611686018427387904) (w : World) : Calls Tryz.prog 29 #[.string s, .int .u8 (c.toNat : Int)] w fun e w' => e = .returned (.int .i64 (match li c (bs s) with | some i => (i : Int) | none => -1)) ∧ w = w' :=
  (Any.strings_LastIndexByte Tryz.layLast s (c.toNat : Int) hs w).mono fun _ _ ⟨h1, h2⟩ => ⟨by rw [h1, last_li], h2.symm⟩

theorem may_c (c : UInt8) (w : World) : Calls Tryz.prog 96 #[.int .u8 (c.toNat : Int)] w fun e w' => e = .returned (.bool (may c)) ∧ w = w' := by
  have hI := indexByte_c ⟨#[46, 95, 43, 126, 94, 45, 58]⟩ c
  rw [indexByte_fi] at hI
  have hd := digit_c c
  have hl := letter_c c
  have HD := Lib.hid hd
  have HL := Lib.hid hl
  clear hd hl
  unfold may
  cases h1 : dig c with
  | true =>
    rw [h1] at HD
    clear h1 hI
    go_enter Tryz.func96, Tryz.ntmps96
    go_wp2_with fail
    refine (HD.out _).mono ?_
    rintro e w' ⟨rfl, rfl⟩
    go_wp2
    go_ret
    exact ⟨rfl, rfl⟩
  | false =>
    rw [h1] at HD
    clear h1
    cases h2 : lett c with
    | true =>
      rw [h2] at HL
      clear h2 hI
      go_enter Tryz.func96, Tryz.ntmps96
      go_wp2_with fail
      refine (HD.out _).mono ?_
      rintro e w' ⟨rfl, rfl⟩
      go_wp2_with fail
      refine (HL.out _).mono ?_
      rintro e w' ⟨rfl, rfl⟩
      go_wp2
      go_ret
      exact ⟨rfl, rfl⟩
    | false =>
      rw [h2] at HL
      clear h2
      have hm : ∀ b, b = signs7.contains c → Calls Tryz.prog 96 #[.int .u8 (c.toNat : Int)] w fun e w' => e = .returned (.bool b) ∧ w = w' := by
        intro b hb
        cases hf : fi c signs7 with
        | none =>
          have : c ∉ signs7 := fi_none.1 hf
          have hb' : b = false := by rw [hb]; simpa using this
          subst hb'
          have e : bs ⟨#[46, 95, 43, 126, 94, 45, 58]⟩ = signs7 := rfl
          rw [e, hf] at hI
          have HI := Lib.hid hI
          clear hI hb hf this e
          go_enter Tryz.func96, Tryz.ntmps96
          go_wp2_with fail
          refine (HD.out _).mono ?_
          rintro e w' ⟨rfl, rfl⟩
          go_wp2_with fail
          refine (HL.out _).mono ?_
          rintro e w' ⟨rfl, rfl⟩
          go_wp2_with fail
          refine (HI.out _).mono ?_
          rintro e w' ⟨rfl, rfl⟩
          go_wp2
          go_ret
          exact ⟨rfl, rfl⟩
        | some i =>
          have hin : c ∈ signs7 := by
            apply Decidable.byContradiction
            intro hn
            rw [fi_none.2 hn] at hf
            cases hf
          have hb' : b = true := by rw [hb]; simpa using hin
          subst hb'
          have e : bs ⟨#[46, 95, 43, 126, 94, 45, 58]⟩ = signs7 := rfl
          rw [e, hf] at hI
          have HI := Lib.hid hI
          have hi0 : (0 : Int) ≤ (i : Int) := by omega
          clear hI hb hf hin e
          go_enter Tryz.func96, Tryz.ntmps96
          go_wp2_with fail
          refine (HD.out _).mono ?_
          rintro e w' ⟨rfl, rfl⟩
          go_wp2_with fail
          refine (HL.out _).mono ?_
          rintro e w' ⟨rfl, rfl⟩
          go_wp2_with fail
          refine (HI.out _).mono ?_
          rintro e w' ⟨rfl, rfl⟩
          go_wp2
          go_ret
          exact ⟨rfl, rfl⟩
      exact hm _ (by simp)

theorem enter46 : ∀ args w, (callFunc 96 args).run Tryz.prog w = .ok (.enter 96 args) w := fun args w => by kernel_rfl
theorem enter47 : ∀ args w, (callFunc 97 args).run Tryz.prog w = .ok (.enter 97 args) w := fun args w => by kernel_rfl
theorem enter48 : ∀ args w, (callFunc 98 args).run Tryz.prog w = .ok (.enter 98 args) w := fun args w => by kernel_rfl
theorem count_may (s : ByteArray) (hs : s.size ≤ maxLen) (w : World) : Calls Tryz.prog 100 #[.string s, .func (.func 96) #[] #[]] w fun e w' => e = .returned (.int .i64 (cnt may (bs s) : Nat)) ∧ w = w' :=
  count_any 96 #[] enter46 may s hs w fun c => may_c c w
theorem count_dig (s : ByteArray) (hs : s.size ≤ maxLen) (w : World) : Calls Tryz.prog 100 #[.string s, .func (.func 97) #[] #[]] w fun e w' => e = .returned (.int .i64 (cnt dig (bs s) : Nat)) ∧ w = w' :=
  count_any 97 #[] enter47 dig s hs w fun c => digit_c c w
theorem count_lett (s : ByteArray) (hs : s.size ≤ maxLen) (w : World) : Calls Tryz.prog 100 #[.string s, .func (.func 98) #[] #[]] w fun e w' => e = .returned (.int .i64 (cnt lett (bs s) : Nat)) ∧ w = w' :=
  count_any 98 #[] enter48 lett s hs w fun c => letter_c c w
end Go.Proofs.YtjcefgjgjhdbpaaGreatDoor
namespace Go.Proofs.YtjcefgjgjhdbpaaGreatDoor
set_option linter.unusedVariables false
set_option linter.unusedSimpArgs false
open Go.RowKit

/-- A version's parts as a value. -/
def evrV : Option Parts → Value
  | none => .agg #[.string ⟨#[]⟩, .string ⟨#[]⟩, .string ⟨#[]⟩]
  | some x => .agg #[.string ⟨x.1.toArray⟩, .string ⟨x.2.1.toArray⟩, .string ⟨x.2.2.toArray⟩]
def errOf : Option Parts → Int
  | none => 30
  | some _ => 0
/-- What Parse leaves. -/
def ParseRes (x : Option Parts) (w : World) (e : Ending) (w' : World) : Prop := e = .returned (.tuple #[evrV x, .int .i64 (errOf x)]) ∧ Below w.heap.size w w'

theorem evrV_some (a b c : ByteArray) : evrV (some (bs a, bs b, bs c)) = .agg #[.string a, .string b, .string c] := by
  show Value.agg #[.string ⟨(bs a).toArray⟩, .string ⟨(bs b).toArray⟩, .string ⟨(bs c).toArray⟩] = _
  rw [Lib.mk_data, Lib.mk_data, Lib.mk_data]

theorem bs_toList (s : ByteArray) : s.toList = bs s := Lib.toList_data s
theorem bs_head (s : ByteArray) (i : Nat) : bs (s.extract 0 i) = (bs s).take i := by
  show (s.extract 0 i).data.toList = _
  rw [Lib.extract_data, List.drop_zero, Nat.sub_zero]
theorem bs_tail (s : ByteArray) (i : Nat) : bs (s.extract i s.size) = (bs s).drop i := Lib.extract_to_end s i
theorem size_head (s : ByteArray) (i : Nat) (h : i ≤ s.size) : (s.extract 0 i).size = i := by rw [← bs_length, bs_head, List.length_take, bs_length]; omega
theorem size_tail (s : ByteArray) (i : Nat) : (s.extract i s.size).size = s.size - i := by rw [← bs_length, bs_tail, List.length_drop, bs_length]
theorem bs_nonempty {s : ByteArray} (h : 0 < s.size) : s.toList.isEmpty = false := by
  rw [bs_toList]
  have : 0 < (bs s).length := by rw [bs_length]; exact h
  cases hs : bs s with
  | nil => rw [hs] at this; simp at this
  | cons a l => rfl
theorem bs_zero {s : ByteArray} (h : s.size = 0) : s = ⟨#[]⟩ := by
  rw [← Lib.mk_data s]
  have : s.data.toList = [] := List.eq_nil_of_length_eq_zero (by have := bs_length s; unfold bs at this; omega)
  rw [this]
theorem bs_nil {s : ByteArray} : bs s = [] ↔ s.size = 0 := by
  rw [← bs_length]
  exact ⟨fun h => by rw [h]; rfl, fun h => List.eq_nil_of_length_eq_zero h⟩

/-- What holds of a text that may be. -/
theorem okText_some {s : ByteArray} (h : okText (bs s) = true) : s.toList.isEmpty = false ∧ s.size ≤ 60 ∧ cnt may (bs s) = s.size ∧ 0 < s.size := by
  unfold okText at h
  simp only [Bool.and_eq_true, decide_eq_true_eq] at h
  obtain ⟨⟨h1, h2⟩, h3⟩ := h
  have h4 : (bs s).isEmpty = false := by simpa using h1
  rw [← bs_toList] at h4
  rw [← cnt_all, bs_length] at h3
  rw [bs_length] at h2
  refine ⟨h4, h2, h3, ?_⟩
  rcases Nat.eq_zero_or_pos s.size with h0 | h0
  · rw [bs_toList, bs_nil.2 h0] at h4
    cases h4
  · exact h0
theorem okEpoch_some {s : ByteArray} (h : okEpoch (bs s) = true) : s.toList.isEmpty = false ∧ s.size ≤ 9 ∧ cnt dig (bs s) = s.size ∧ 0 < s.size := by
  unfold okEpoch at h
  simp only [Bool.and_eq_true, decide_eq_true_eq] at h
  obtain ⟨⟨h1, h2⟩, h3⟩ := h
  have h4 : (bs s).isEmpty = false := by simpa using h1
  rw [← bs_toList] at h4
  rw [← cnt_all, bs_length] at h3
  rw [bs_length] at h2
  refine ⟨h4, h2, h3, ?_⟩
  rcases Nat.eq_zero_or_pos s.size with h0 | h0
  · rw [bs_toList, bs_nil.2 h0] at h4
    cases h4
  · exact h0
theorem okText_bad {s : ByteArray} (h : okText (bs s) = false) (h0 : ¬ s.size = 0) (h60 : s.size ≤ 60) : cnt may (bs s) ≠ s.size := by
  rw [← bs_length, Ne, cnt_all]
  unfold okText at h
  intro ha
  have : (bs s).isEmpty = false := by rw [← bs_toList]; exact bs_nonempty (by omega)
  rw [ha, this, decide_eq_true (by rw [bs_length]; exact h60)] at h
  cases h
theorem okEpoch_bad {s : ByteArray} (h : okEpoch (bs s) = false) (h0 : ¬ s.size = 0) (h60 : s.size ≤ 9) : cnt dig (bs s) ≠ s.size := by
  rw [← bs_length, Ne, cnt_all]
  unfold okEpoch at h
  intro ha
  have : (bs s).isEmpty = false := by rw [← bs_toList]; exact bs_nonempty (by omega)
  rw [ha, this, decide_eq_true (by rw [bs_length]; exact h60)] at h
  cases h

theorem last_yes (s : ByteArray) (j : Nat) (h : li 45 (bs s) = some j) (hs : s.size < 4611686018427387904) (w : World) : Calls Tryz.prog 29 #[.string s, .int .u8 45] w fun e w' => e = .returned (.int .i64 (j : Int)) ∧ w = w' := by
  have := last_c s 45 hs w
  rw [h] at this
  exact this
theorem last_no (s : ByteArray) (h : li 45 (bs s) = none) (hs : s.size < 4611686018427387904) (w : World) : Calls Tryz.prog 29 #[.string s, .int .u8 45] w fun e w' => e = .returned (.int .i64 (-1)) ∧ w = w' := by
  have := last_c s 45 hs w
  rw [h] at this
  exact this

theorem below1 (w : World) (o : Obj) : Below w.heap.size w (w.alloc o) := (Below.refl _ w).alloc (Nat.le_refl _) o
theorem below2 (w : World) (o1 o2 : Obj) : Below w.heap.size w ((w.alloc o1).alloc o2) := (below1 w o1).alloc (by simp) o2
theorem below_dr {B : Nat} {w w' : World} (h : Below B w w') (n : Nat) : Below B w (w'.drewN n) := ⟨h.os, h.tape, h.output, h.size, h.block⟩

set_option maxHeartbeats 1000000 in
theorem parse_no (s : ByteArray) (hs : s.size ≤ maxLen) (w : World) (h : okText (bs s) = false) : Calls Tryz.prog 66 #[.string s] w (ParseRes none w) := by
  have hm : s.size ≤ 9223372036854775807 := hs
  have HC := Lib.hid (count_may s hs)
  by_cases h0 : s.size = 0
  · obtain rfl := bs_zero h0
    clear h HC
    go_enter Tryz.func66, Tryz.ntmps66
    go_wp2
    exact bodyPost_ret (v := .tuple #[evrV none, .int .i64 30]) (by simp [results, Tryz.results66, go_sem, evrV]) rfl ⟨rfl, by first | exact below1 _ _ | exact below2 _ _ _ | (repeat (first | exact below2 _ _ _ | (refine Below.setCell ?_ (by simp) _) | (refine below_dr ?_ _) | (refine below_dr ?_ 1)))⟩
  · have he := bs_nonempty (s := s) (by omega)
    by_cases h60 : s.size ≤ 60
    · have h60' : ¬ (60 : Int) < (s.size : Int) := by omega
      have hne := okText_bad h h0 h60
      generalize cnt may (bs s) = n at HC hne
      have hB : ((n : Int) != (s.size : Int)) = true := by rw [bne_iff_ne]; omega
      clear h hne
      go_enter Tryz.func66, Tryz.ntmps66
      go_wp2_with fail
      refine (HC.out _).mono ?_
      rintro e w' ⟨rfl, rfl⟩
      go_wp2
      exact bodyPost_ret (v := .tuple #[evrV none, .int .i64 30]) (by simp [results, Tryz.results66, go_sem, evrV]) rfl ⟨rfl, by first | exact below1 _ _ | exact below2 _ _ _ | (repeat (first | exact below2 _ _ _ | (refine Below.setCell ?_ (by simp) _) | (refine below_dr ?_ _) | (refine below_dr ?_ 1)))⟩
    · have h60' : (60 : Int) < (s.size : Int) := by omega
      clear h HC
      go_enter Tryz.func66, Tryz.ntmps66
      go_wp2
      exact bodyPost_ret (v := .tuple #[evrV none, .int .i64 30]) (by simp [results, Tryz.results66, go_sem, evrV]) rfl ⟨rfl, by first | exact below1 _ _ | exact below2 _ _ _ | (repeat (first | exact below2 _ _ _ | (refine Below.setCell ?_ (by simp) _) | (refine below_dr ?_ _) | (refine below_dr ?_ 1)))⟩

set_option maxHeartbeats 1000000 in
theorem parse_epoch (s : ByteArray) (hs : s.size ≤ maxLen) (w : World) (h : okText (bs s) = true) (i : Nat) (hi : fi 58 (bs s) = some i) (hE : okEpoch ((bs s).take i) = false) : Calls Tryz.prog 66 #[.string s] w (ParseRes none w) := by
  have hm : s.size ≤ 9223372036854775807 := hs
  obtain ⟨he, h60, hc, hp⟩ := okText_some h
  have hC := count_may s hs
  rw [hc] at hC
  have HC := Lib.hid hC
  have h60' : ¬ (60 : Int) < (s.size : Int) := by omega
  have hB : ((s.size : Int) != (s.size : Int)) = false := by simp
  have hsd : ∀ (w : World) (n : Nat) (a : Addr) (v : Value), (w.drewN n).setCell a v = (w.setCell a v).drewN n := fun _ _ _ _ => rfl
  clear h hc hC
  have HCut := Lib.hid (cut_yes s 58 i hi hm)
  have hil : i < s.size := by
    obtain ⟨h, _⟩ := fi_some.1 hi
    rw [bs_length] at h
    exact h
  have hes := size_head s i (by omega)
  have hrs := size_tail s (i + 1)
  have heb := bs_head s i
  have hrb := bs_tail s (i + 1)
  rw [← heb] at hE
  generalize s.extract 0 i = ep at hes hE heb HCut
  generalize s.extract (i + 1) s.size = r at hrs hrb HCut
  have HD := Lib.hid (count_dig ep (by rw [hes]; unfold maxLen at *; omega))
  have hep : ep.size ≤ 60 := by omega
  have hr60 : r.size ≤ 60 := by omega
  clear hes hrs hi
  clear heb hrb hr60
  by_cases h0 : ep.size = 0
  · obtain rfl := bs_zero h0
    clear HD hE
    go_enter Tryz.func66, Tryz.ntmps66
    go_wp2_with fail
    refine (HC.out _).mono ?_
    rintro e w' ⟨rfl, rfl⟩
    go_wp2_with fail
    refine (HCut.out _).mono ?_
    rintro e w' ⟨rfl, n, rfl⟩
    go_wp2
    exact bodyPost_ret (v := .tuple #[evrV none, .int .i64 30]) (by simp [results, Tryz.results66, go_sem, evrV]) rfl ⟨rfl, by first | exact below1 _ _ | exact below2 _ _ _ | (repeat (first | exact below2 _ _ _ | (refine Below.setCell ?_ (by simp) _) | (refine below_dr ?_ _) | (refine below_dr ?_ 1)))⟩
  · have hee := bs_nonempty (s := ep) (by omega)
    by_cases h9 : ep.size ≤ 9
    · have h9' : ¬ (9 : Int) < (ep.size : Int) := by omega
      have hne := okEpoch_bad hE h0 h9
      generalize cnt dig (bs ep) = m at HD hne
      have hB2 : ((m : Int) != (ep.size : Int)) = true := by rw [bne_iff_ne]; omega
      clear hE hne
      go_enter Tryz.func66, Tryz.ntmps66
      go_wp2_with fail
      refine (HC.out _).mono ?_
      rintro e w' ⟨rfl, rfl⟩
      go_wp2_with fail
      refine (HCut.out _).mono ?_
      rintro e w' ⟨rfl, n, rfl⟩
      go_wp2_with fail
      refine (HD.out _).mono ?_
      rintro e w' ⟨rfl, rfl⟩
      go_wp2
      exact bodyPost_ret (v := .tuple #[evrV none, .int .i64 30]) (by simp [results, Tryz.results66, go_sem, evrV]) rfl ⟨rfl, by first | exact below1 _ _ | exact below2 _ _ _ | (repeat (first | exact below2 _ _ _ | (refine Below.setCell ?_ (by simp) _) | (refine below_dr ?_ _) | (refine below_dr ?_ 1)))⟩
    · have h9' : (9 : Int) < (ep.size : Int) := by omega
      clear hE HD
      go_enter Tryz.func66, Tryz.ntmps66
      go_wp2_with fail
      refine (HC.out _).mono ?_
      rintro e w' ⟨rfl, rfl⟩
      go_wp2_with fail
      refine (HCut.out _).mono ?_
      rintro e w' ⟨rfl, n, rfl⟩
      go_wp2
      exact bodyPost_ret (v := .tuple #[evrV none, .int .i64 30]) (by simp [results, Tryz.results66, go_sem, evrV]) rfl ⟨rfl, by first | exact below1 _ _ | exact below2 _ _ _ | (repeat (first | exact below2 _ _ _ | (refine Below.setCell ?_ (by simp) _) | (refine below_dr ?_ _) | (refine below_dr ?_ 1)))⟩

set_option maxHeartbeats 4000000 in
theorem parse_tail_e (s : ByteArray) (hs : s.size ≤ maxLen) (w : World) (h : okText (bs s) = true) (i : Nat) (hi : fi 58 (bs s) = some i) (hE : okEpoch ((bs s).take i) = true) : Calls Tryz.prog 66 #[.string s] w (ParseRes (parse2 ((bs s).take i) ((bs s).drop (i + 1))) w) := by
  have hm : s.size ≤ 9223372036854775807 := hs
  obtain ⟨he, h60, hc, hp⟩ := okText_some h
  have hC := count_may s hs
  rw [hc] at hC
  have HC := Lib.hid hC
  have h60' : ¬ (60 : Int) < (s.size : Int) := by omega
  have hB : ((s.size : Int) != (s.size : Int)) = false := by simp
  have hsd : ∀ (w : World) (n : Nat) (a : Addr) (v : Value), (w.drewN n).setCell a v = (w.setCell a v).drewN n := fun _ _ _ _ => rfl
  clear h hc hC
  have HCut := Lib.hid (cut_yes s 58 i hi hm)
  have hil : i < s.size := by
    obtain ⟨h, _⟩ := fi_some.1 hi
    rw [bs_length] at h
    exact h
  have hes := size_head s i (by omega)
  have hrs := size_tail s (i + 1)
  have heb := bs_head s i
  have hrb := bs_tail s (i + 1)
  rw [← heb] at hE
  generalize s.extract 0 i = ep at hes hE heb HCut
  generalize s.extract (i + 1) s.size = r at hrs hrb HCut
  have HD := Lib.hid (count_dig ep (by rw [hes]; unfold maxLen at *; omega))
  have hep : ep.size ≤ 60 := by omega
  have hr60 : r.size ≤ 60 := by omega
  clear hes hrs hi
  obtain ⟨hee, h9, hcd, hp2⟩ := okEpoch_some hE
  rw [hcd] at HD
  have h9' : ¬ (9 : Int) < (ep.size : Int) := by omega
  have hB2 : ((ep.size : Int) != (ep.size : Int)) = false := by simp
  clear hE hcd hp2 hil
  have HI := Lib.hid (contains_c r 58)
  cases hj : li 45 (bs r) with
  | some j =>
    have HL := Lib.hid (last_yes r j hj (by omega))
    have hjl : j < r.size := by
      obtain ⟨h, _⟩ := li_some.1 hj
      rw [bs_length] at h
      exact h
    have hv := bs_head r j
    have hq := bs_tail r (j + 1)
    have hvs := size_head r j (by omega)
    have hqs := size_tail r (j + 1)
    have j0 : (0 : Int) ≤ (j : Int) := by omega
    have j1 : (j : Int) ≤ (r.size : Int) := by omega
    have j2 : (j : Int) + 1 ≤ (r.size : Int) := by omega
    obtain ⟨v, ev⟩ : ∃ v, r.extract 0 j = v := ⟨_, rfl⟩
    obtain ⟨q, eq⟩ : ∃ q, r.extract (j + 1) r.size = q := ⟨_, rfl⟩
    rw [ev] at hv hvs
    rw [eq] at hq hqs
    have HV := Lib.hid hv
    have HQ := Lib.hid hq
    have hex : parse2 ((bs s).take i) ((bs s).drop (i + 1)) = if bs q = [] then none else if bs v = [] ∨ 58 ∈ bs r then none else some (bs ep, bs v, bs q) := by
      rw [← heb, ← hrb]
      unfold parse2
      rw [hj, hv, hq]
    rw [hex]
    clear hex hv hq hj heb hrb
    by_cases hq0 : q.size = 0
    · rw [if_pos (bs_nil.2 hq0)]
      obtain rfl := bs_zero hq0
      clear hvs hqs HI
      go_enter Tryz.func66, Tryz.ntmps66
      go_wp2_with fail
      refine (HC.out _).mono ?_
      rintro e w' ⟨rfl, rfl⟩
      go_wp2_with fail
      refine (HCut.out _).mono ?_
      rintro e w' ⟨rfl, n, rfl⟩
      go_wp2_with fail
      refine (HD.out _).mono ?_
      rintro e w' ⟨rfl, rfl⟩
      go_wp2_with fail
      refine (HL.out _).mono ?_
      rintro e w' ⟨rfl, rfl⟩
      go_wp2
      go_region
      go_wp2
      exact bodyPost_ret (v := .tuple #[evrV none, .int .i64 30]) (by simp [results, Tryz.results66, go_sem, evrV]) rfl ⟨rfl, by first | exact below1 _ _ | exact below2 _ _ _ | (repeat (first | exact below2 _ _ _ | (refine Below.setCell ?_ (by simp) _) | (refine below_dr ?_ _) | (refine below_dr ?_ 1)))⟩
    · rw [if_neg (fun h => hq0 (bs_nil.1 h))]
      have hqe := bs_nonempty (s := q) (by omega)
      by_cases hv0 : v.size = 0
      · rw [if_pos (.inl (bs_nil.2 hv0))]
        obtain rfl := bs_zero hv0
        clear hvs hqs HI
        go_enter Tryz.func66, Tryz.ntmps66
        go_wp2_with fail
        refine (HC.out _).mono ?_
        rintro e w' ⟨rfl, rfl⟩
        go_wp2_with fail
        refine (HCut.out _).mono ?_
        rintro e w' ⟨rfl, n, rfl⟩
        go_wp2_with fail
        refine (HD.out _).mono ?_
        rintro e w' ⟨rfl, rfl⟩
        go_wp2_with fail
        refine (HL.out _).mono ?_
        rintro e w' ⟨rfl, rfl⟩
        go_wp2
        go_region
        go_wp2
        exact bodyPost_ret (v := .tuple #[evrV none, .int .i64 30]) (by simp [results, Tryz.results66, go_sem, evrV]) rfl ⟨rfl, by first | exact below1 _ _ | exact below2 _ _ _ | (repeat (first | exact below2 _ _ _ | (refine Below.setCell ?_ (by simp) _) | (refine below_dr ?_ _) | (refine below_dr ?_ 1)))⟩
      · have hve := bs_nonempty (s := v) (by omega)
        by_cases h58 : 58 ∈ bs r
        · rw [if_pos (.inr h58)]
          rw [decide_eq_true h58] at HI
          clear hvs hqs h58
          go_enter Tryz.func66, Tryz.ntmps66
          go_wp2_with fail
          refine (HC.out _).mono ?_
          rintro e w' ⟨rfl, rfl⟩
          go_wp2_with fail
          refine (HCut.out _).mono ?_
          rintro e w' ⟨rfl, n, rfl⟩
          go_wp2_with fail
          refine (HD.out _).mono ?_
          rintro e w' ⟨rfl, rfl⟩
          go_wp2_with fail
          refine (HL.out _).mono ?_
          rintro e w' ⟨rfl, rfl⟩
          go_wp2
          go_region
          go_wp2_with fail
          refine (HI.out _).mono ?_
          rintro e w' ⟨rfl, rfl⟩
          go_wp2
          exact bodyPost_ret (v := .tuple #[evrV none, .int .i64 30]) (by simp [results, Tryz.results66, go_sem, evrV]) rfl ⟨rfl, by first | exact below1 _ _ | exact below2 _ _ _ | (repeat (first | exact below2 _ _ _ | (refine Below.setCell ?_ (by simp) _) | (refine below_dr ?_ _) | (refine below_dr ?_ 1)))⟩
        · rw [if_neg (by intro h; rcases h with h | h; exact hv0 (bs_nil.1 h); exact h58 h)]
          rw [decide_eq_false h58] at HI
          clear hvs hqs h58
          go_enter Tryz.func66, Tryz.ntmps66
          go_wp2_with fail
          refine (HC.out _).mono ?_
          rintro e w' ⟨rfl, rfl⟩
          go_wp2_with fail
          refine (HCut.out _).mono ?_
          rintro e w' ⟨rfl, n, rfl⟩
          go_wp2_with fail
          refine (HD.out _).mono ?_
          rintro e w' ⟨rfl, rfl⟩
          go_wp2_with fail
          refine (HL.out _).mono ?_
          rintro e w' ⟨rfl, rfl⟩
          go_wp2
          go_region
          go_wp2_with fail
          refine (HI.out _).mono ?_
          rintro e w' ⟨rfl, rfl⟩
          go_wp2
          exact bodyPost_ret (v := .tuple #[.agg #[.string ep, .string v, .string q], .int .i64 0]) (by simp [results, Tryz.results66, go_sem]) rfl ⟨by rw [← evrV_some]; rfl, by first | exact below1 _ _ | exact below2 _ _ _ | (repeat (first | exact below2 _ _ _ | (refine Below.setCell ?_ (by simp) _) | (refine below_dr ?_ _) | (refine below_dr ?_ 1)))⟩
  | none =>
    have HL := Lib.hid (last_no r hj (by omega))
    have hex : parse2 ((bs s).take i) ((bs s).drop (i + 1)) = if bs r = [] ∨ 58 ∈ bs r then none else some (bs ep, bs r, bs ⟨#[]⟩) := by
      rw [← heb, ← hrb]
      unfold parse2
      rw [hj]
    rw [hex]
    clear hex hj heb hrb
    by_cases hr0 : r.size = 0
    · rw [if_pos (.inl (bs_nil.2 hr0))]
      obtain rfl := bs_zero hr0
      clear HI
      go_enter Tryz.func66, Tryz.ntmps66
      go_wp2_with fail
      refine (HC.out _).mono ?_
      rintro e w' ⟨rfl, rfl⟩
      go_wp2_with fail
      refine (HCut.out _).mono ?_
      rintro e w' ⟨rfl, n, rfl⟩
      go_wp2_with fail
      refine (HD.out _).mono ?_
      rintro e w' ⟨rfl, rfl⟩
      go_wp2_with fail
      refine (HL.out _).mono ?_
      rintro e w' ⟨rfl, rfl⟩
      go_wp2
      exact bodyPost_ret (v := .tuple #[evrV none, .int .i64 30]) (by simp [results, Tryz.results66, go_sem, evrV]) rfl ⟨rfl, by first | exact below1 _ _ | exact below2 _ _ _ | (repeat (first | exact below2 _ _ _ | (refine Below.setCell ?_ (by simp) _) | (refine below_dr ?_ _) | (refine below_dr ?_ 1)))⟩
    · have hre := bs_nonempty (s := r) (by omega)
      by_cases h58 : 58 ∈ bs r
      · rw [if_pos (.inr h58)]
        rw [decide_eq_true h58] at HI
        clear h58
        go_enter Tryz.func66, Tryz.ntmps66
        go_wp2_with fail
        refine (HC.out _).mono ?_
        rintro e w' ⟨rfl, rfl⟩
        go_wp2_with fail
        refine (HCut.out _).mono ?_
        rintro e w' ⟨rfl, n, rfl⟩
        go_wp2_with fail
        refine (HD.out _).mono ?_
        rintro e w' ⟨rfl, rfl⟩
        go_wp2_with fail
        refine (HL.out _).mono ?_
        rintro e w' ⟨rfl, rfl⟩
        go_wp2_with fail
        refine (HI.out _).mono ?_
        rintro e w' ⟨rfl, rfl⟩
        go_wp2
        exact bodyPost_ret (v := .tuple #[evrV none, .int .i64 30]) (by simp [results, Tryz.results66, go_sem, evrV]) rfl ⟨rfl, by first | exact below1 _ _ | exact below2 _ _ _ | (repeat (first | exact below2 _ _ _ | (refine Below.setCell ?_ (by simp) _) | (refine below_dr ?_ _) | (refine below_dr ?_ 1)))⟩
      · rw [if_neg (by intro h; rcases h with h | h; exact hr0 (bs_nil.1 h); exact h58 h)]
        rw [decide_eq_false h58] at HI
        clear h58
        go_enter Tryz.func66, Tryz.ntmps66
        go_wp2_with fail
        refine (HC.out _).mono ?_
        rintro e w' ⟨rfl, rfl⟩
        go_wp2_with fail
        refine (HCut.out _).mono ?_
        rintro e w' ⟨rfl, n, rfl⟩
        go_wp2_with fail
        refine (HD.out _).mono ?_
        rintro e w' ⟨rfl, rfl⟩
        go_wp2_with fail
        refine (HL.out _).mono ?_
        rintro e w' ⟨rfl, rfl⟩
        go_wp2_with fail
        refine (HI.out _).mono ?_
        rintro e w' ⟨rfl, rfl⟩
        go_wp2
        exact bodyPost_ret (v := .tuple #[.agg #[.string ep, .string r, .string ⟨#[]⟩], .int .i64 0]) (by simp [results, Tryz.results66, go_sem]) rfl ⟨by rw [← evrV_some]; rfl, by first | exact below1 _ _ | exact below2 _ _ _ | (repeat (first | exact below2 _ _ _ | (refine Below.setCell ?_ (by simp) _) | (refine below_dr ?_ _) | (refine below_dr ?_ 1)))⟩

set_option maxHeartbeats 4000000 in
theorem parse_tail_n (s : ByteArray) (hs : s.size ≤ maxLen) (w : World) (h : okText (bs s) = true) (hi : fi 58 (bs s) = none) : Calls Tryz.prog 66 #[.string s] w (ParseRes (parse2 [] (bs s)) w) := by
  have hm : s.size ≤ 9223372036854775807 := hs
  obtain ⟨he, h60, hc, hp⟩ := okText_some h
  have hC := count_may s hs
  rw [hc] at hC
  have HC := Lib.hid hC
  have h60' : ¬ (60 : Int) < (s.size : Int) := by omega
  have hB : ((s.size : Int) != (s.size : Int)) = false := by simp
  have hsd : ∀ (w : World) (n : Nat) (a : Addr) (v : Value), (w.drewN n).setCell a v = (w.setCell a v).drewN n := fun _ _ _ _ => rfl
  clear h hc hC
  have HCut := Lib.hid (cut_no s 58 hi)
  clear hi
  have HI := Lib.hid (contains_c s 58)
  cases hj : li 45 (bs s) with
  | some j =>
    have HL := Lib.hid (last_yes s j hj (by omega))
    have hjl : j < s.size := by
      obtain ⟨h, _⟩ := li_some.1 hj
      rw [bs_length] at h
      exact h
    have hv := bs_head s j
    have hq := bs_tail s (j + 1)
    have hvs := size_head s j (by omega)
    have hqs := size_tail s (j + 1)
    have j0 : (0 : Int) ≤ (j : Int) := by omega
    have j1 : (j : Int) ≤ (s.size : Int) := by omega
    have j2 : (j : Int) + 1 ≤ (s.size : Int) := by omega
    obtain ⟨v, ev⟩ : ∃ v, s.extract 0 j = v := ⟨_, rfl⟩
    obtain ⟨q, eq⟩ : ∃ q, s.extract (j + 1) s.size = q := ⟨_, rfl⟩
    rw [ev] at hv hvs
    rw [eq] at hq hqs
    have HV := Lib.hid hv
    have HQ := Lib.hid hq
    have hex : parse2 [] (bs s) = if bs q = [] then none else if bs v = [] ∨ 58 ∈ bs s then none else some (bs ⟨#[]⟩, bs v, bs q) := by
      skip
      unfold parse2
      rw [hj, hv, hq]
    rw [hex]
    clear hex hv hq hj
    by_cases hq0 : q.size = 0
    · rw [if_pos (bs_nil.2 hq0)]
      obtain rfl := bs_zero hq0
      clear hvs hqs HI
      go_enter Tryz.func66, Tryz.ntmps66
      go_wp2_with fail
      refine (HC.out _).mono ?_
      rintro e w' ⟨rfl, rfl⟩
      go_wp2_with fail
      refine (HCut.out _).mono ?_
      rintro e w' ⟨rfl, rfl⟩
      go_wp2_with fail
      refine (HL.out _).mono ?_
      rintro e w' ⟨rfl, rfl⟩
      go_wp2
      go_region
      go_wp2
      exact bodyPost_ret (v := .tuple #[evrV none, .int .i64 30]) (by simp [results, Tryz.results66, go_sem, evrV]) rfl ⟨rfl, by first | exact below1 _ _ | exact below2 _ _ _ | (repeat (first | exact below2 _ _ _ | (refine Below.setCell ?_ (by simp) _) | (refine below_dr ?_ _) | (refine below_dr ?_ 1)))⟩
    · rw [if_neg (fun h => hq0 (bs_nil.1 h))]
      have hqe := bs_nonempty (s := q) (by omega)
      by_cases hv0 : v.size = 0
      · rw [if_pos (.inl (bs_nil.2 hv0))]
        obtain rfl := bs_zero hv0
        clear hvs hqs HI
        go_enter Tryz.func66, Tryz.ntmps66
        go_wp2_with fail
        refine (HC.out _).mono ?_
        rintro e w' ⟨rfl, rfl⟩
        go_wp2_with fail
        refine (HCut.out _).mono ?_
        rintro e w' ⟨rfl, rfl⟩
        go_wp2_with fail
        refine (HL.out _).mono ?_
        rintro e w' ⟨rfl, rfl⟩
        go_wp2
        go_region
        go_wp2
        exact bodyPost_ret (v := .tuple #[evrV none, .int .i64 30]) (by simp [results, Tryz.results66, go_sem, evrV]) rfl ⟨rfl, by first | exact below1 _ _ | exact below2 _ _ _ | (repeat (first | exact below2 _ _ _ | (refine Below.setCell ?_ (by simp) _) | (refine below_dr ?_ _) | (refine below_dr ?_ 1)))⟩
      · have hve := bs_nonempty (s := v) (by omega)
        by_cases h58 : 58 ∈ bs s
        · rw [if_pos (.inr h58)]
          rw [decide_eq_true h58] at HI
          clear hvs hqs h58
          go_enter Tryz.func66, Tryz.ntmps66
          go_wp2_with fail
          refine (HC.out _).mono ?_
          rintro e w' ⟨rfl, rfl⟩
          go_wp2_with fail
          refine (HCut.out _).mono ?_
          rintro e w' ⟨rfl, rfl⟩
          go_wp2_with fail
          refine (HL.out _).mono ?_
          rintro e w' ⟨rfl, rfl⟩
          go_wp2
          go_region
          go_wp2_with fail
          refine (HI.out _).mono ?_
          rintro e w' ⟨rfl, rfl⟩
          go_wp2
          exact bodyPost_ret (v := .tuple #[evrV none, .int .i64 30]) (by simp [results, Tryz.results66, go_sem, evrV]) rfl ⟨rfl, by first | exact below1 _ _ | exact below2 _ _ _ | (repeat (first | exact below2 _ _ _ | (refine Below.setCell ?_ (by simp) _) | (refine below_dr ?_ _) | (refine below_dr ?_ 1)))⟩
        · rw [if_neg (by intro h; rcases h with h | h; exact hv0 (bs_nil.1 h); exact h58 h)]
          rw [decide_eq_false h58] at HI
          clear hvs hqs h58
          go_enter Tryz.func66, Tryz.ntmps66
          go_wp2_with fail
          refine (HC.out _).mono ?_
          rintro e w' ⟨rfl, rfl⟩
          go_wp2_with fail
          refine (HCut.out _).mono ?_
          rintro e w' ⟨rfl, rfl⟩
          go_wp2_with fail
          refine (HL.out _).mono ?_
          rintro e w' ⟨rfl, rfl⟩
          go_wp2
          go_region
          go_wp2_with fail
          refine (HI.out _).mono ?_
          rintro e w' ⟨rfl, rfl⟩
          go_wp2
          exact bodyPost_ret (v := .tuple #[.agg #[.string ⟨#[]⟩, .string v, .string q], .int .i64 0]) (by simp [results, Tryz.results66, go_sem]) rfl ⟨by rw [← evrV_some]; rfl, by first | exact below1 _ _ | exact below2 _ _ _ | (repeat (first | exact below2 _ _ _ | (refine Below.setCell ?_ (by simp) _) | (refine below_dr ?_ _) | (refine below_dr ?_ 1)))⟩
  | none =>
    have HL := Lib.hid (last_no s hj (by omega))
    have hex : parse2 [] (bs s) = if bs s = [] ∨ 58 ∈ bs s then none else some (bs ⟨#[]⟩, bs s, bs ⟨#[]⟩) := by
      skip
      unfold parse2
      rw [hj]
    rw [hex]
    clear hex hj
    by_cases hr0 : s.size = 0
    · rw [if_pos (.inl (bs_nil.2 hr0))]
      omega
    · have hre := bs_nonempty (s := s) (by omega)
      by_cases h58 : 58 ∈ bs s
      · rw [if_pos (.inr h58)]
        rw [decide_eq_true h58] at HI
        clear h58
        go_enter Tryz.func66, Tryz.ntmps66
        go_wp2_with fail
        refine (HC.out _).mono ?_
        rintro e w' ⟨rfl, rfl⟩
        go_wp2_with fail
        refine (HCut.out _).mono ?_
        rintro e w' ⟨rfl, rfl⟩
        go_wp2_with fail
        refine (HL.out _).mono ?_
        rintro e w' ⟨rfl, rfl⟩
        go_wp2_with fail
        refine (HI.out _).mono ?_
        rintro e w' ⟨rfl, rfl⟩
        go_wp2
        exact bodyPost_ret (v := .tuple #[evrV none, .int .i64 30]) (by simp [results, Tryz.results66, go_sem, evrV]) rfl ⟨rfl, by first | exact below1 _ _ | exact below2 _ _ _ | (repeat (first | exact below2 _ _ _ | (refine Below.setCell ?_ (by simp) _) | (refine below_dr ?_ _) | (refine below_dr ?_ 1)))⟩
      · rw [if_neg (by intro h; rcases h with h | h; exact hr0 (bs_nil.1 h); exact h58 h)]
        rw [decide_eq_false h58] at HI
        clear h58
        go_enter Tryz.func66, Tryz.ntmps66
        go_wp2_with fail
        refine (HC.out _).mono ?_
        rintro e w' ⟨rfl, rfl⟩
        go_wp2_with fail
        refine (HCut.out _).mono ?_
        rintro e w' ⟨rfl, rfl⟩
        go_wp2_with fail
        refine (HL.out _).mono ?_
        rintro e w' ⟨rfl, rfl⟩
        go_wp2_with fail
        refine (HI.out _).mono ?_
        rintro e w' ⟨rfl, rfl⟩
        go_wp2
        exact bodyPost_ret (v := .tuple #[.agg #[.string ⟨#[]⟩, .string s, .string ⟨#[]⟩], .int .i64 0]) (by simp [results, Tryz.results66, go_sem]) rfl ⟨by rw [← evrV_some]; rfl, by first | exact below1 _ _ | exact below2 _ _ _ | (repeat (first | exact below2 _ _ _ | (refine Below.setCell ?_ (by simp) _) | (refine below_dr ?_ _) | (refine below_dr ?_ 1)))⟩

/-- Parse. -/
theorem parse_c (s : ByteArray) (hs : s.size ≤ maxLen) (w : World) : Calls Tryz.prog 66 #[.string s] w (ParseRes (parse (bs s)) w) := by
  unfold parse
  by_cases h : okText (bs s) = false
  · rw [if_pos h]
    exact parse_no s hs w h
  · rw [if_neg h]
    have h' : okText (bs s) = true := by simpa using h
    cases hi : fi 58 (bs s) with
    | some i =>
      show Calls Tryz.prog 66 #[.string s] w (ParseRes (if okEpoch ((bs s).take i) = false then none else parse2 ((bs s).take i) ((bs s).drop (i + 1))) w)
      by_cases hE : okEpoch ((bs s).take i) = false
      · rw [if_pos hE]
        exact parse_epoch s hs w h' i hi hE
      · rw [if_neg hE]
        exact parse_tail_e s hs w h' i hi (by simpa using hE)
    | none => exact parse_tail_n s hs w h' hi
end Go.Proofs.YtjcefgjgjhdbpaaGreatDoor
namespace Go.Proofs.YtjcefgjgjhdbpaaGreatDoor
set_option linter.unusedVariables false
set_option linter.unusedSimpArgs false
open Go.RowKit

theorem parse_some {s : ByteArray} (hs : s.size ≤ maxLen) {e v r : ByteArray} (h : parse (bs s) = some (bs e, bs v, bs r)) (w : World) :
    Calls Tryz.prog 66 #[.string s] w fun en w' => en = .returned (.tuple #[.agg #[.string e, .string v, .string r], .int .i64 0]) ∧ Below w.heap.size w w' := by
  have := parse_c s hs w
  rw [h] at this
  exact this.mono fun en w' ⟨h1, h2⟩ => ⟨by rw [h1, evrV_some]; rfl, h2⟩
theorem parse_none {s : ByteArray} (hs : s.size ≤ maxLen) (h : parse (bs s) = none) (w : World) :
    Calls Tryz.prog 66 #[.string s] w fun en w' => en = .returned (.tuple #[.agg #[.string ⟨#[]⟩, .string ⟨#[]⟩, .string ⟨#[]⟩], .int .i64 30]) ∧ Below w.heap.size w w' := by
  have := parse_c s hs w
  rw [h] at this
  exact this

theorem size_le {s : ByteArray} {a b : Nat} : (s.extract a b).size ≤ s.size := by
  rw [← bs_length, ← bs_length]
  show (s.extract a b).data.toList.length ≤ s.data.toList.length
  rw [Lib.extract_data, List.length_take, List.length_drop]
  omega
theorem bs_drop (s : ByteArray) (i : Nat) : bs (s.extract i s.size) = (bs s).drop i := Lib.extract_to_end s i
theorem alloc_at (w : World) (o : Obj) : (w.alloc o).heap[w.heap.size]? = some o := by
  unfold World.alloc
  simp
theorem below_al {B : Nat} {w w' : World} (h : Below B w w') (hB : B ≤ w.heap.size) (o : Obj) : Below B w (w'.alloc o) := h.alloc (Nat.le_trans hB h.size) o

theorem below_sc {B b : Nat} {w w' : World} (h : Below B w w') (hb : B ≤ b) (o : Nat) (v : Value) : Below B w (w'.setCell ⟨b, o, none⟩ v) := h.setCell (p := ⟨b, o, none⟩) hb v

/-- A box of three texts. -/
structure Box3 (W : World) (b : Nat) (x y z : ByteArray) : Prop where
  at_ : W.heap[b]? = some (.cells #[.string x, .string y, .string z] 97 (0, 0))
  c0 : W.cell? ⟨b, 0, none⟩ = some (.string x)
  c1 : W.cell? ⟨b, 1, none⟩ = some (.string y)
  c2 : W.cell? ⟨b, 2, none⟩ = some (.string z)
  f0 : W.frozen? ⟨b, 0, none⟩ = false
  f1 : W.frozen? ⟨b, 1, none⟩ = false
  f2 : W.frozen? ⟨b, 2, none⟩ = false
theorem Box3.of {W : World} {b : Nat} {x y z : ByteArray} (h : W.heap[b]? = some (.cells #[.string x, .string y, .string z] 97 (0, 0))) : Box3 W b x y z :=
  ⟨h, by unfold World.cell?; simp only [h]; rfl, by unfold World.cell?; simp only [h]; rfl, by unfold World.cell?; simp only [h]; rfl, by unfold World.frozen?; simp only [h]; rfl, by unfold World.frozen?; simp only [h]; rfl, by unfold World.frozen?; simp only [h]; rfl⟩
theorem Box3.lt {W : World} {b : Nat} {x y z : ByteArray} (h : Box3 W b x y z) : b < W.heap.size := World.block_lt_of_cell? W _ h.c0
theorem Box3.below {W W' : World} {b : Nat} {x y z : ByteArray} (h : Box3 W b x y z) (hb : Below W.heap.size W W') : Box3 W' b x y z := .of ((hb.block _ h.lt).trans h.at_)
theorem Box3.dr {W : World} {b : Nat} {x y z : ByteArray} (h : Box3 W b x y z) : Box3 W.drew b x y z := .of h.at_
theorem Box3.set {W : World} {b : Nat} {x y z : ByteArray} (h : Box3 W b x y z) (x' y' z' : ByteArray) : Box3 (((W.setCell ⟨b, 0, none⟩ (.string x')).setCell ⟨b, 1, none⟩ (.string y')).setCell ⟨b, 2, none⟩ (.string z')) b x' y' z' := by
  refine .of ?_
  have h := h.at_
  unfold World.setCell
  simp [Array.getElem?_modify, h]
theorem Box3.other {W : World} {b c o : Nat} {v : Value} {x y z : ByteArray} (h : Box3 W b x y z) (hc : c ≠ b) : Box3 (W.setCell ⟨c, o, none⟩ v) b x y z := by
  refine .of ?_
  have h := h.at_
  unfold World.setCell
  simp [Array.getElem?_modify, h, hc]
theorem boxes2 (w : World) (x y z x' y' z' : ByteArray) : Box3 ((w.alloc (.cells #[.string x, .string y, .string z] 97)).alloc (.cells #[.string x', .string y', .string z'] 97)) w.heap.size x y z ∧
    Box3 ((w.alloc (.cells #[.string x, .string y, .string z] 97)).alloc (.cells #[.string x', .string y', .string z'] 97)) (w.heap.size + 1) x' y' z' := by
  refine ⟨.of ?_, .of ?_⟩
  · rw [Below.heap_alloc _ _ _ (by simp)]
    exact alloc_at w _
  · have := alloc_at (w.alloc (.cells #[.string x, .string y, .string z] 97)) (.cells #[.string x', .string y', .string z'] 97)
    rwa [World.size_alloc] at this

end Go.Proofs.YtjcefgjgjhdbpaaGreatDoor
