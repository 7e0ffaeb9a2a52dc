/-
  Parse: the contract. Helper text (printed by gen_parse.py); the conditions are those typed.
-/
import Derived.Test.YtgeimldijagkkaaWalkB
import Derived.RegionTactic
import Derived.BigRegion
namespace Go.Proofs.Ytgeimldijagkkaa
set_option linter.unusedVariables false
set_option linter.unusedSimpArgs false
open Go.RowKit

/-- A version's parts as a value. -/
def evrV : Option Parts → Value
  | none => .agg #[.string ⟨#[]⟩, .string ⟨#[]⟩, .string ⟨#[]⟩]
  | some x => .agg #[.string ⟨x.1.toArray⟩, .string ⟨x.2.1.toArray⟩, .string ⟨x.2.2.toArray⟩]
def errOf : Option Parts → Int
  | none => 30
  | some _ => 0
/-- What Parse leaves. -/
def ParseRes (x : Option Parts) (w : World) (e : Ending) (w' : World) : Prop := e = .returned (.tuple #[evrV x, .int .i64 (errOf x)]) ∧ Below w.heap.size w w'

theorem evrV_some (a b c : ByteArray) : evrV (some (bs a, bs b, bs c)) = .agg #[.string a, .string b, .string c] := by
  show Value.agg #[.string ⟨(bs a).toArray⟩, .string ⟨(bs b).toArray⟩, .string ⟨(bs c).toArray⟩] = _
  rw [Lib.mk_data, Lib.mk_data, Lib.mk_data]

theorem bs_toList (s : ByteArray) : s.toList = bs s := Lib.toList_data s
theorem bs_head (s : ByteArray) (i : Nat) : bs (s.extract 0 i) = (bs s).take i := by
  show (s.extract 0 i).data.toList = _
  rw [Lib.extract_data, List.drop_zero, Nat.sub_zero]
theorem bs_tail (s : ByteArray) (i : Nat) : bs (s.extract i s.size) = (bs s).drop i := Lib.extract_to_end s i
theorem size_head (s : ByteArray) (i : Nat) (h : i ≤ s.size) : (s.extract 0 i).size = i := by rw [← bs_length, bs_head, List.length_take, bs_length]; omega
theorem size_tail (s : ByteArray) (i : Nat) : (s.extract i s.size).size = s.size - i := by rw [← bs_length, bs_tail, List.length_drop, bs_length]
theorem bs_nonempty {s : ByteArray} (h : 0 < s.size) : s.toList.isEmpty = false := by
  rw [bs_toList]
  have : 0 < (bs s).length := by rw [bs_length]; exact h
  cases hs : bs s with
  | nil => rw [hs] at this; simp at this
  | cons a l => rfl
theorem bs_zero {s : ByteArray} (h : s.size = 0) : s = ⟨#[]⟩ := by
  rw [← Lib.mk_data s]
  have : s.data.toList = [] := List.eq_nil_of_length_eq_zero (by have := bs_length s; unfold bs at this; omega)
  rw [this]
theorem bs_nil {s : ByteArray} : bs s = [] ↔ s.size = 0 := by
  rw [← bs_length]
  exact ⟨fun h => by rw [h]; rfl, fun h => List.eq_nil_of_length_eq_zero h⟩

/-- What holds of a text that may be. -/
theorem okText_some {s : ByteArray} (h : okText (bs s) = true) : s.toList.isEmpty = false ∧ s.size ≤ 60 ∧ cnt may (bs s) = s.size ∧ 0 < s.size := by
  unfold okText at h
  simp only [Bool.and_eq_true, decide_eq_true_eq] at h
  obtain ⟨⟨h1, h2⟩, h3⟩ := h
  have h4 : (bs s).isEmpty = false := by simpa using h1
  rw [← bs_toList] at h4
  rw [← cnt_all, bs_length] at h3
  rw [bs_length] at h2
  refine ⟨h4, h2, h3, ?_⟩
  rcases Nat.eq_zero_or_pos s.size with h0 | h0
  · rw [bs_toList, bs_nil.2 h0] at h4
    cases h4
  · exact h0
theorem okEpoch_some {s : ByteArray} (h : okEpoch (bs s) = true) : s.toList.isEmpty = false ∧ s.size ≤ 9 ∧ cnt dig (bs s) = s.size ∧ 0 < s.size := by
  unfold okEpoch at h
  simp only [Bool.and_eq_true, decide_eq_true_eq] at h
  obtain ⟨⟨h1, h2⟩, h3⟩ := h
  have h4 : (bs s).isEmpty = false := by simpa using h1
  rw [← bs_toList] at h4
  rw [← cnt_all, bs_length] at h3
  rw [bs_length] at h2
  refine ⟨h4, h2, h3, ?_⟩
  rcases Nat.eq_zero_or_pos s.size with h0 | h0
  · rw [bs_toList, bs_nil.2 h0] at h4
    cases h4
  · exact h0
theorem okText_bad {s : ByteArray} (h : okText (bs s) = false) (h0 : ¬ s.size = 0) (h60 : s.size ≤ 60) : cnt may (bs s) ≠ s.size := by
  rw [← bs_length, Ne, cnt_all]
  unfold okText at h
  intro ha
  have : (bs s).isEmpty = false := by rw [← bs_toList]; exact bs_nonempty (by omega)
  rw [ha, this, decide_eq_true (by rw [bs_length]; exact h60)] at h
  cases h
theorem okEpoch_bad {s : ByteArray} (h : okEpoch (bs s) = false) (h0 : ¬ s.size = 0) (h60 : s.size ≤ 9) : cnt dig (bs s) ≠ s.size := by
  rw [← bs_length, Ne, cnt_all]
  unfold okEpoch at h
  intro ha
  have : (bs s).isEmpty = false := by rw [← bs_toList]; exact bs_nonempty (by omega)
  rw [ha, this, decide_eq_true (by rw [bs_length]; exact h60)] at h
  cases h

theorem last_yes (s : ByteArray) (j : Nat) (h : li 45 (bs s) = some j) (hs : s.size < 4611686018427387904) (w : World) : Calls Try.prog 52 #[.string s, .int .u8 45] w fun e w' => e = .returned (.int .i64 (j : Int)) ∧ w = w' := by
  have := last_c s 45 hs w
  rw [h] at this
  exact this
theorem last_no (s : ByteArray) (h : li 45 (bs s) = none) (hs : s.size < 4611686018427387904) (w : World) : Calls Try.prog 52 #[.string s, .int .u8 45] w fun e w' => e = .returned (.int .i64 (-1)) ∧ w = w' := by
  have := last_c s 45 hs w
  rw [h] at this
  exact this

theorem below1 (w : World) (o : Obj) : Below w.heap.size w (w.alloc o) := (Below.refl _ w).alloc (Nat.le_refl _) o
theorem below2 (w : World) (o1 o2 : Obj) : Below w.heap.size w ((w.alloc o1).alloc o2) := (below1 w o1).alloc (by simp) o2
theorem below_dr {B : Nat} {w w' : World} (h : Below B w w') (n : Nat) : Below B w (w'.drewN n) := ⟨h.os, h.tape, h.output, h.size, h.block⟩

set_option maxHeartbeats 1000000 in
theorem parse_no (s : ByteArray) (hs : s.size ≤ maxLen) (w : World) (h : okText (bs s) = false) : Calls Try.prog 27 #[.string s] w (ParseRes none w) := by
  have hm : s.size ≤ 9223372036854775807 := hs
  have HC := Lib.hid (count_may s hs)
  by_cases h0 : s.size = 0
  · obtain rfl := bs_zero h0
    clear h HC
    go_enter Try.func27, Try.ntmps27
    go_wp2
    exact bodyPost_ret (v := .tuple #[evrV none, .int .i64 30]) (by simp [results, Try.results27, go_sem, evrV]) rfl ⟨rfl, by first | exact below1 _ _ | exact below2 _ _ _ | (repeat (first | exact below2 _ _ _ | (refine Below.setCell ?_ (by simp) _) | (refine below_dr ?_ _) | (refine below_dr ?_ 1)))⟩
  · have he := bs_nonempty (s := s) (by omega)
    by_cases h60 : s.size ≤ 60
    · have h60' : ¬ (60 : Int) < (s.size : Int) := by omega
      have hne := okText_bad h h0 h60
      generalize cnt may (bs s) = n at HC hne
      have hB : ((n : Int) != (s.size : Int)) = true := by rw [bne_iff_ne]; omega
      clear h hne
      go_enter Try.func27, Try.ntmps27
      go_wp2_with fail
      refine (HC.out _).mono ?_
      rintro e w' ⟨rfl, rfl⟩
      go_wp2
      exact bodyPost_ret (v := .tuple #[evrV none, .int .i64 30]) (by simp [results, Try.results27, go_sem, evrV]) rfl ⟨rfl, by first | exact below1 _ _ | exact below2 _ _ _ | (repeat (first | exact below2 _ _ _ | (refine Below.setCell ?_ (by simp) _) | (refine below_dr ?_ _) | (refine below_dr ?_ 1)))⟩
    · have h60' : (60 : Int) < (s.size : Int) := by omega
      clear h HC
      go_enter Try.func27, Try.ntmps27
      go_wp2
      exact bodyPost_ret (v := .tuple #[evrV none, .int .i64 30]) (by simp [results, Try.results27, go_sem, evrV]) rfl ⟨rfl, by first | exact below1 _ _ | exact below2 _ _ _ | (repeat (first | exact below2 _ _ _ | (refine Below.setCell ?_ (by simp) _) | (refine below_dr ?_ _) | (refine below_dr ?_ 1)))⟩

set_option maxHeartbeats 1000000 in
theorem parse_epoch (s : ByteArray) (hs : s.size ≤ maxLen) (w : World) (h : okText (bs s) = true) (i : Nat) (hi : fi 58 (bs s) = some i) (hE : okEpoch ((bs s).take i) = false) : Calls Try.prog 27 #[.string s] w (ParseRes none w) := by
  have hm : s.size ≤ 9223372036854775807 := hs
  obtain ⟨he, h60, hc, hp⟩ := okText_some h
  have hC := count_may s hs
  rw [hc] at hC
  have HC := Lib.hid hC
  have h60' : ¬ (60 : Int) < (s.size : Int) := by omega
  have hB : ((s.size : Int) != (s.size : Int)) = false := by simp
  have hsd : ∀ (w : World) (n : Nat) (a : Addr) (v : Value), (w.drewN n).setCell a v = (w.setCell a v).drewN n := fun _ _ _ _ => rfl
  clear h hc hC
  have HCut := Lib.hid (cut_yes s 58 i hi hm)
  have hil : i < s.size := by
    obtain ⟨h, _⟩ := fi_some.1 hi
    rw [bs_length] at h
    exact h
  have hes := size_head s i (by omega)
  have hrs := size_tail s (i + 1)
  have heb := bs_head s i
  have hrb := bs_tail s (i + 1)
  rw [← heb] at hE
  generalize s.extract 0 i = ep at hes hE heb HCut
  generalize s.extract (i + 1) s.size = r at hrs hrb HCut
  have HD := Lib.hid (count_dig ep (by rw [hes]; unfold maxLen at *; omega))
  have hep : ep.size ≤ 60 := by omega
  have hr60 : r.size ≤ 60 := by omega
  clear hes hrs hi
  clear heb hrb hr60
  by_cases h0 : ep.size = 0
  · obtain rfl := bs_zero h0
    clear HD hE
    go_enter Try.func27, Try.ntmps27
    go_wp2_with fail
    refine (HC.out _).mono ?_
    rintro e w' ⟨rfl, rfl⟩
    go_wp2_with fail
    refine (HCut.out _).mono ?_
    rintro e w' ⟨rfl, n, rfl⟩
    go_wp2
    exact bodyPost_ret (v := .tuple #[evrV none, .int .i64 30]) (by simp [results, Try.results27, go_sem, evrV]) rfl ⟨rfl, by first | exact below1 _ _ | exact below2 _ _ _ | (repeat (first | exact below2 _ _ _ | (refine Below.setCell ?_ (by simp) _) | (refine below_dr ?_ _) | (refine below_dr ?_ 1)))⟩
  · have hee := bs_nonempty (s := ep) (by omega)
    by_cases h9 : ep.size ≤ 9
    · have h9' : ¬ (9 : Int) < (ep.size : Int) := by omega
      have hne := okEpoch_bad hE h0 h9
      generalize cnt dig (bs ep) = m at HD hne
      have hB2 : ((m : Int) != (ep.size : Int)) = true := by rw [bne_iff_ne]; omega
      clear hE hne
      go_enter Try.func27, Try.ntmps27
      go_wp2_with fail
      refine (HC.out _).mono ?_
      rintro e w' ⟨rfl, rfl⟩
      go_wp2_with fail
      refine (HCut.out _).mono ?_
      rintro e w' ⟨rfl, n, rfl⟩
      go_wp2_with fail
      refine (HD.out _).mono ?_
      rintro e w' ⟨rfl, rfl⟩
      go_wp2
      exact bodyPost_ret (v := .tuple #[evrV none, .int .i64 30]) (by simp [results, Try.results27, go_sem, evrV]) rfl ⟨rfl, by first | exact below1 _ _ | exact below2 _ _ _ | (repeat (first | exact below2 _ _ _ | (refine Below.setCell ?_ (by simp) _) | (refine below_dr ?_ _) | (refine below_dr ?_ 1)))⟩
    · have h9' : (9 : Int) < (ep.size : Int) := by omega
      clear hE HD
      go_enter Try.func27, Try.ntmps27
      go_wp2_with fail
      refine (HC.out _).mono ?_
      rintro e w' ⟨rfl, rfl⟩
      go_wp2_with fail
      refine (HCut.out _).mono ?_
      rintro e w' ⟨rfl, n, rfl⟩
      go_wp2
      exact bodyPost_ret (v := .tuple #[evrV none, .int .i64 30]) (by simp [results, Try.results27, go_sem, evrV]) rfl ⟨rfl, by first | exact below1 _ _ | exact below2 _ _ _ | (repeat (first | exact below2 _ _ _ | (refine Below.setCell ?_ (by simp) _) | (refine below_dr ?_ _) | (refine below_dr ?_ 1)))⟩

set_option maxHeartbeats 4000000 in
theorem parse_tail_e (s : ByteArray) (hs : s.size ≤ maxLen) (w : World) (h : okText (bs s) = true) (i : Nat) (hi : fi 58 (bs s) = some i) (hE : okEpoch ((bs s).take i) = true) : Calls Try.prog 27 #[.string s] w (ParseRes (parse2 ((bs s).take i) ((bs s).drop (i + 1))) w) := by
  have hm : s.size ≤ 9223372036854775807 := hs
  obtain ⟨he, h60, hc, hp⟩ := okText_some h
  have hC := count_may s hs
  rw [hc] at hC
  have HC := Lib.hid hC
  have h60' : ¬ (60 : Int) < (s.size : Int) := by omega
  have hB : ((s.size : Int) != (s.size : Int)) = false := by simp
  have hsd : ∀ (w : World) (n : Nat) (a : Addr) (v : Value), (w.drewN n).setCell a v = (w.setCell a v).drewN n := fun _ _ _ _ => rfl
  clear h hc hC
  have HCut := Lib.hid (cut_yes s 58 i hi hm)
  have hil : i < s.size := by
    obtain ⟨h, _⟩ := fi_some.1 hi
    rw [bs_length] at h
    exact h
  have hes := size_head s i (by omega)
  have hrs := size_tail s (i + 1)
  have heb := bs_head s i
  have hrb := bs_tail s (i + 1)
  rw [← heb] at hE
  generalize s.extract 0 i = ep at hes hE heb HCut
  generalize s.extract (i + 1) s.size = r at hrs hrb HCut
  have HD := Lib.hid (count_dig ep (by rw [hes]; unfold maxLen at *; omega))
  have hep : ep.size ≤ 60 := by omega
  have hr60 : r.size ≤ 60 := by omega
  clear hes hrs hi
  obtain ⟨hee, h9, hcd, hp2⟩ := okEpoch_some hE
  rw [hcd] at HD
  have h9' : ¬ (9 : Int) < (ep.size : Int) := by omega
  have hB2 : ((ep.size : Int) != (ep.size : Int)) = false := by simp
  clear hE hcd hp2 hil
  have HI := Lib.hid (contains_c r 58)
  cases hj : li 45 (bs r) with
  | some j =>
    have HL := Lib.hid (last_yes r j hj (by omega))
    have hjl : j < r.size := by
      obtain ⟨h, _⟩ := li_some.1 hj
      rw [bs_length] at h
      exact h
    have hv := bs_head r j
    have hq := bs_tail r (j + 1)
    have hvs := size_head r j (by omega)
    have hqs := size_tail r (j + 1)
    have j0 : (0 : Int) ≤ (j : Int) := by omega
    have j1 : (j : Int) ≤ (r.size : Int) := by omega
    have j2 : (j : Int) + 1 ≤ (r.size : Int) := by omega
    obtain ⟨v, ev⟩ : ∃ v, r.extract 0 j = v := ⟨_, rfl⟩
    obtain ⟨q, eq⟩ : ∃ q, r.extract (j + 1) r.size = q := ⟨_, rfl⟩
    rw [ev] at hv hvs
    rw [eq] at hq hqs
    have HV := Lib.hid hv
    have HQ := Lib.hid hq
    have hex : parse2 ((bs s).take i) ((bs s).drop (i + 1)) = if bs q = [] then none else if bs v = [] ∨ 58 ∈ bs r then none else some (bs ep, bs v, bs q) := by
      rw [← heb, ← hrb]
      unfold parse2
      rw [hj, hv, hq]
    rw [hex]
    clear hex hv hq hj heb hrb
    by_cases hq0 : q.size = 0
    · rw [if_pos (bs_nil.2 hq0)]
      obtain rfl := bs_zero hq0
      clear hvs hqs HI
      go_enter Try.func27, Try.ntmps27
      go_wp2_with fail
      refine (HC.out _).mono ?_
      rintro e w' ⟨rfl, rfl⟩
      go_wp2_with fail
      refine (HCut.out _).mono ?_
      rintro e w' ⟨rfl, n, rfl⟩
      go_wp2_with fail
      refine (HD.out _).mono ?_
      rintro e w' ⟨rfl, rfl⟩
      go_wp2_with fail
      refine (HL.out _).mono ?_
      rintro e w' ⟨rfl, rfl⟩
      go_wp2
      go_region
      go_wp2
      exact bodyPost_ret (v := .tuple #[evrV none, .int .i64 30]) (by simp [results, Try.results27, go_sem, evrV]) rfl ⟨rfl, by first | exact below1 _ _ | exact below2 _ _ _ | (repeat (first | exact below2 _ _ _ | (refine Below.setCell ?_ (by simp) _) | (refine below_dr ?_ _) | (refine below_dr ?_ 1)))⟩
    · rw [if_neg (fun h => hq0 (bs_nil.1 h))]
      have hqe := bs_nonempty (s := q) (by omega)
      by_cases hv0 : v.size = 0
      · rw [if_pos (.inl (bs_nil.2 hv0))]
        obtain rfl := bs_zero hv0
        clear hvs hqs HI
        go_enter Try.func27, Try.ntmps27
        go_wp2_with fail
        refine (HC.out _).mono ?_
        rintro e w' ⟨rfl, rfl⟩
        go_wp2_with fail
        refine (HCut.out _).mono ?_
        rintro e w' ⟨rfl, n, rfl⟩
        go_wp2_with fail
        refine (HD.out _).mono ?_
        rintro e w' ⟨rfl, rfl⟩
        go_wp2_with fail
        refine (HL.out _).mono ?_
        rintro e w' ⟨rfl, rfl⟩
        go_wp2
        go_region
        go_wp2
        exact bodyPost_ret (v := .tuple #[evrV none, .int .i64 30]) (by simp [results, Try.results27, go_sem, evrV]) rfl ⟨rfl, by first | exact below1 _ _ | exact below2 _ _ _ | (repeat (first | exact below2 _ _ _ | (refine Below.setCell ?_ (by simp) _) | (refine below_dr ?_ _) | (refine below_dr ?_ 1)))⟩
      · have hve := bs_nonempty (s := v) (by omega)
        by_cases h58 : 58 ∈ bs r
        · rw [if_pos (.inr h58)]
          rw [decide_eq_true h58] at HI
          clear hvs hqs h58
          go_enter Try.func27, Try.ntmps27
          go_wp2_with fail
          refine (HC.out _).mono ?_
          rintro e w' ⟨rfl, rfl⟩
          go_wp2_with fail
          refine (HCut.out _).mono ?_
          rintro e w' ⟨rfl, n, rfl⟩
          go_wp2_with fail
          refine (HD.out _).mono ?_
          rintro e w' ⟨rfl, rfl⟩
          go_wp2_with fail
          refine (HL.out _).mono ?_
          rintro e w' ⟨rfl, rfl⟩
          go_wp2
          go_region
          go_wp2_with fail
          refine (HI.out _).mono ?_
          rintro e w' ⟨rfl, rfl⟩
          go_wp2
          exact bodyPost_ret (v := .tuple #[evrV none, .int .i64 30]) (by simp [results, Try.results27, go_sem, evrV]) rfl ⟨rfl, by first | exact below1 _ _ | exact below2 _ _ _ | (repeat (first | exact below2 _ _ _ | (refine Below.setCell ?_ (by simp) _) | (refine below_dr ?_ _) | (refine below_dr ?_ 1)))⟩
        · rw [if_neg (by intro h; rcases h with h | h; exact hv0 (bs_nil.1 h); exact h58 h)]
          rw [decide_eq_false h58] at HI
          clear hvs hqs h58
          go_enter Try.func27, Try.ntmps27
          go_wp2_with fail
          refine (HC.out _).mono ?_
          rintro e w' ⟨rfl, rfl⟩
          go_wp2_with fail
          refine (HCut.out _).mono ?_
          rintro e w' ⟨rfl, n, rfl⟩
          go_wp2_with fail
          refine (HD.out _).mono ?_
          rintro e w' ⟨rfl, rfl⟩
          go_wp2_with fail
          refine (HL.out _).mono ?_
          rintro e w' ⟨rfl, rfl⟩
          go_wp2
          go_region
          go_wp2_with fail
          refine (HI.out _).mono ?_
          rintro e w' ⟨rfl, rfl⟩
          go_wp2
          exact bodyPost_ret (v := .tuple #[.agg #[.string ep, .string v, .string q], .int .i64 0]) (by simp [results, Try.results27, go_sem]) rfl ⟨by rw [← evrV_some]; rfl, by first | exact below1 _ _ | exact below2 _ _ _ | (repeat (first | exact below2 _ _ _ | (refine Below.setCell ?_ (by simp) _) | (refine below_dr ?_ _) | (refine below_dr ?_ 1)))⟩
  | none =>
    have HL := Lib.hid (last_no r hj (by omega))
    have hex : parse2 ((bs s).take i) ((bs s).drop (i + 1)) = if bs r = [] ∨ 58 ∈ bs r then none else some (bs ep, bs r, bs ⟨#[]⟩) := by
      rw [← heb, ← hrb]
      unfold parse2
      rw [hj]
    rw [hex]
    clear hex hj heb hrb
    by_cases hr0 : r.size = 0
    · rw [if_pos (.inl (bs_nil.2 hr0))]
      obtain rfl := bs_zero hr0
      clear HI
      go_enter Try.func27, Try.ntmps27
      go_wp2_with fail
      refine (HC.out _).mono ?_
      rintro e w' ⟨rfl, rfl⟩
      go_wp2_with fail
      refine (HCut.out _).mono ?_
      rintro e w' ⟨rfl, n, rfl⟩
      go_wp2_with fail
      refine (HD.out _).mono ?_
      rintro e w' ⟨rfl, rfl⟩
      go_wp2_with fail
      refine (HL.out _).mono ?_
      rintro e w' ⟨rfl, rfl⟩
      go_wp2
      exact bodyPost_ret (v := .tuple #[evrV none, .int .i64 30]) (by simp [results, Try.results27, go_sem, evrV]) rfl ⟨rfl, by first | exact below1 _ _ | exact below2 _ _ _ | (repeat (first | exact below2 _ _ _ | (refine Below.setCell ?_ (by simp) _) | (refine below_dr ?_ _) | (refine below_dr ?_ 1)))⟩
    · have hre := bs_nonempty (s := r) (by omega)
      by_cases h58 : 58 ∈ bs r
      · rw [if_pos (.inr h58)]
        rw [decide_eq_true h58] at HI
        clear h58
        go_enter Try.func27, Try.ntmps27
        go_wp2_with fail
        refine (HC.out _).mono ?_
        rintro e w' ⟨rfl, rfl⟩
        go_wp2_with fail
        refine (HCut.out _).mono ?_
        rintro e w' ⟨rfl, n, rfl⟩
        go_wp2_with fail
        refine (HD.out _).mono ?_
        rintro e w' ⟨rfl, rfl⟩
        go_wp2_with fail
        refine (HL.out _).mono ?_
        rintro e w' ⟨rfl, rfl⟩
        go_wp2_with fail
        refine (HI.out _).mono ?_
        rintro e w' ⟨rfl, rfl⟩
        go_wp2
        exact bodyPost_ret (v := .tuple #[evrV none, .int .i64 30]) (by simp [results, Try.results27, go_sem, evrV]) rfl ⟨rfl, by first | exact below1 _ _ | exact below2 _ _ _ | (repeat (first | exact below2 _ _ _ | (refine Below.setCell ?_ (by simp) _) | (refine below_dr ?_ _) | (refine below_dr ?_ 1)))⟩
      · rw [if_neg (by intro h; rcases h with h | h; exact hr0 (bs_nil.1 h); exact h58 h)]
        rw [decide_eq_false h58] at HI
        clear h58
        go_enter Try.func27, Try.ntmps27
        go_wp2_with fail
        refine (HC.out _).mono ?_
        rintro e w' ⟨rfl, rfl⟩
        go_wp2_with fail
        refine (HCut.out _).mono ?_
        rintro e w' ⟨rfl, n, rfl⟩
        go_wp2_with fail
        refine (HD.out _).mono ?_
        rintro e w' ⟨rfl, rfl⟩
        go_wp2_with fail
        refine (HL.out _).mono ?_
        rintro e w' ⟨rfl, rfl⟩
        go_wp2_with fail
        refine (HI.out _).mono ?_
        rintro e w' ⟨rfl, rfl⟩
        go_wp2
        exact bodyPost_ret (v := .tuple #[.agg #[.string ep, .string r, .string ⟨#[]⟩], .int .i64 0]) (by simp [results, Try.results27, go_sem]) rfl ⟨by rw [← evrV_some]; rfl, by first | exact below1 _ _ | exact below2 _ _ _ | (repeat (first | exact below2 _ _ _ | (refine Below.setCell ?_ (by simp) _) | (refine below_dr ?_ _) | (refine below_dr ?_ 1)))⟩

set_option maxHeartbeats 4000000 in
theorem parse_tail_n (s : ByteArray) (hs : s.size ≤ maxLen) (w : World) (h : okText (bs s) = true) (hi : fi 58 (bs s) = none) : Calls Try.prog 27 #[.string s] w (ParseRes (parse2 [] (bs s)) w) := by
  have hm : s.size ≤ 9223372036854775807 := hs
  obtain ⟨he, h60, hc, hp⟩ := okText_some h
  have hC := count_may s hs
  rw [hc] at hC
  have HC := Lib.hid hC
  have h60' : ¬ (60 : Int) < (s.size : Int) := by omega
  have hB : ((s.size : Int) != (s.size : Int)) = false := by simp
  have hsd : ∀ (w : World) (n : Nat) (a : Addr) (v : Value), (w.drewN n).setCell a v = (w.setCell a v).drewN n := fun _ _ _ _ => rfl
  clear h hc hC
  have HCut := Lib.hid (cut_no s 58 hi)
  clear hi
  have HI := Lib.hid (contains_c s 58)
  cases hj : li 45 (bs s) with
  | some j =>
    have HL := Lib.hid (last_yes s j hj (by omega))
    have hjl : j < s.size := by
      obtain ⟨h, _⟩ := li_some.1 hj
      rw [bs_length] at h
      exact h
    have hv := bs_head s j
    have hq := bs_tail s (j + 1)
    have hvs := size_head s j (by omega)
    have hqs := size_tail s (j + 1)
    have j0 : (0 : Int) ≤ (j : Int) := by omega
    have j1 : (j : Int) ≤ (s.size : Int) := by omega
    have j2 : (j : Int) + 1 ≤ (s.size : Int) := by omega
    obtain ⟨v, ev⟩ : ∃ v, s.extract 0 j = v := ⟨_, rfl⟩
    obtain ⟨q, eq⟩ : ∃ q, s.extract (j + 1) s.size = q := ⟨_, rfl⟩
    rw [ev] at hv hvs
    rw [eq] at hq hqs
    have HV := Lib.hid hv
    have HQ := Lib.hid hq
    have hex : parse2 [] (bs s) = if bs q = [] then none else if bs v = [] ∨ 58 ∈ bs s then none else some (bs ⟨#[]⟩, bs v, bs q) := by
      skip
      unfold parse2
      rw [hj, hv, hq]
    rw [hex]
    clear hex hv hq hj
    by_cases hq0 : q.size = 0
    · rw [if_pos (bs_nil.2 hq0)]
      obtain rfl := bs_zero hq0
      clear hvs hqs HI
      go_enter Try.func27, Try.ntmps27
      go_wp2_with fail
      refine (HC.out _).mono ?_
      rintro e w' ⟨rfl, rfl⟩
      go_wp2_with fail
      refine (HCut.out _).mono ?_
      rintro e w' ⟨rfl, rfl⟩
      go_wp2_with fail
      refine (HL.out _).mono ?_
      rintro e w' ⟨rfl, rfl⟩
      go_wp2
      go_region
      go_wp2
      exact bodyPost_ret (v := .tuple #[evrV none, .int .i64 30]) (by simp [results, Try.results27, go_sem, evrV]) rfl ⟨rfl, by first | exact below1 _ _ | exact below2 _ _ _ | (repeat (first | exact below2 _ _ _ | (refine Below.setCell ?_ (by simp) _) | (refine below_dr ?_ _) | (refine below_dr ?_ 1)))⟩
    · rw [if_neg (fun h => hq0 (bs_nil.1 h))]
      have hqe := bs_nonempty (s := q) (by omega)
      by_cases hv0 : v.size = 0
      · rw [if_pos (.inl (bs_nil.2 hv0))]
        obtain rfl := bs_zero hv0
        clear hvs hqs HI
        go_enter Try.func27, Try.ntmps27
        go_wp2_with fail
        refine (HC.out _).mono ?_
        rintro e w' ⟨rfl, rfl⟩
        go_wp2_with fail
        refine (HCut.out _).mono ?_
        rintro e w' ⟨rfl, rfl⟩
        go_wp2_with fail
        refine (HL.out _).mono ?_
        rintro e w' ⟨rfl, rfl⟩
        go_wp2
        go_region
        go_wp2
        exact bodyPost_ret (v := .tuple #[evrV none, .int .i64 30]) (by simp [results, Try.results27, go_sem, evrV]) rfl ⟨rfl, by first | exact below1 _ _ | exact below2 _ _ _ | (repeat (first | exact below2 _ _ _ | (refine Below.setCell ?_ (by simp) _) | (refine below_dr ?_ _) | (refine below_dr ?_ 1)))⟩
      · have hve := bs_nonempty (s := v) (by omega)
        by_cases h58 : 58 ∈ bs s
        · rw [if_pos (.inr h58)]
          rw [decide_eq_true h58] at HI
          clear hvs hqs h58
          go_enter Try.func27, Try.ntmps27
          go_wp2_with fail
          refine (HC.out _).mono ?_
          rintro e w' ⟨rfl, rfl⟩
          go_wp2_with fail
          refine (HCut.out _).mono ?_
          rintro e w' ⟨rfl, rfl⟩
          go_wp2_with fail
          refine (HL.out _).mono ?_
          rintro e w' ⟨rfl, rfl⟩
          go_wp2
          go_region
          go_wp2_with fail
          refine (HI.out _).mono ?_
          rintro e w' ⟨rfl, rfl⟩
          go_wp2
          exact bodyPost_ret (v := .tuple #[evrV none, .int .i64 30]) (by simp [results, Try.results27, go_sem, evrV]) rfl ⟨rfl, by first | exact below1 _ _ | exact below2 _ _ _ | (repeat (first | exact below2 _ _ _ | (refine Below.setCell ?_ (by simp) _) | (refine below_dr ?_ _) | (refine below_dr ?_ 1)))⟩
        · rw [if_neg (by intro h; rcases h with h | h; exact hv0 (bs_nil.1 h); exact h58 h)]
          rw [decide_eq_false h58] at HI
          clear hvs hqs h58
          go_enter Try.func27, Try.ntmps27
          go_wp2_with fail
          refine (HC.out _).mono ?_
          rintro e w' ⟨rfl, rfl⟩
          go_wp2_with fail
          refine (HCut.out _).mono ?_
          rintro e w' ⟨rfl, rfl⟩
          go_wp2_with fail
          refine (HL.out _).mono ?_
          rintro e w' ⟨rfl, rfl⟩
          go_wp2
          go_region
          go_wp2_with fail
          refine (HI.out _).mono ?_
          rintro e w' ⟨rfl, rfl⟩
          go_wp2
          exact bodyPost_ret (v := .tuple #[.agg #[.string ⟨#[]⟩, .string v, .string q], .int .i64 0]) (by simp [results, Try.results27, go_sem]) rfl ⟨by rw [← evrV_some]; rfl, by first | exact below1 _ _ | exact below2 _ _ _ | (repeat (first | exact below2 _ _ _ | (refine Below.setCell ?_ (by simp) _) | (refine below_dr ?_ _) | (refine below_dr ?_ 1)))⟩
  | none =>
    have HL := Lib.hid (last_no s hj (by omega))
    have hex : parse2 [] (bs s) = if bs s = [] ∨ 58 ∈ bs s then none else some (bs ⟨#[]⟩, bs s, bs ⟨#[]⟩) := by
      skip
      unfold parse2
      rw [hj]
    rw [hex]
    clear hex hj
    by_cases hr0 : s.size = 0
    · rw [if_pos (.inl (bs_nil.2 hr0))]
      omega
    · have hre := bs_nonempty (s := s) (by omega)
      by_cases h58 : 58 ∈ bs s
      · rw [if_pos (.inr h58)]
        rw [decide_eq_true h58] at HI
        clear h58
        go_enter Try.func27, Try.ntmps27
        go_wp2_with fail
        refine (HC.out _).mono ?_
        rintro e w' ⟨rfl, rfl⟩
        go_wp2_with fail
        refine (HCut.out _).mono ?_
        rintro e w' ⟨rfl, rfl⟩
        go_wp2_with fail
        refine (HL.out _).mono ?_
        rintro e w' ⟨rfl, rfl⟩
        go_wp2_with fail
        refine (HI.out _).mono ?_
        rintro e w' ⟨rfl, rfl⟩
        go_wp2
        exact bodyPost_ret (v := .tuple #[evrV none, .int .i64 30]) (by simp [results, Try.results27, go_sem, evrV]) rfl ⟨rfl, by first | exact below1 _ _ | exact below2 _ _ _ | (repeat (first | exact below2 _ _ _ | (refine Below.setCell ?_ (by simp) _) | (refine below_dr ?_ _) | (refine below_dr ?_ 1)))⟩
      · rw [if_neg (by intro h; rcases h with h | h; exact hr0 (bs_nil.1 h); exact h58 h)]
        rw [decide_eq_false h58] at HI
        clear h58
        go_enter Try.func27, Try.ntmps27
        go_wp2_with fail
        refine (HC.out _).mono ?_
        rintro e w' ⟨rfl, rfl⟩
        go_wp2_with fail
        refine (HCut.out _).mono ?_
        rintro e w' ⟨rfl, rfl⟩
        go_wp2_with fail
        refine (HL.out _).mono ?_
        rintro e w' ⟨rfl, rfl⟩
        go_wp2_with fail
        refine (HI.out _).mono ?_
        rintro e w' ⟨rfl, rfl⟩
        go_wp2
        exact bodyPost_ret (v := .tuple #[.agg #[.string ⟨#[]⟩, .string s, .string ⟨#[]⟩], .int .i64 0]) (by simp [results, Try.results27, go_sem]) rfl ⟨by rw [← evrV_some]; rfl, by first | exact below1 _ _ | exact below2 _ _ _ | (repeat (first | exact below2 _ _ _ | (refine Below.setCell ?_ (by simp) _) | (refine below_dr ?_ _) | (refine below_dr ?_ 1)))⟩

/-- Parse. -/
theorem parse_c (s : ByteArray) (hs : s.size ≤ maxLen) (w : World) : Calls Try.prog 27 #[.string s] w (ParseRes (parse (bs s)) w) := by
  unfold parse
  by_cases h : okText (bs s) = false
  · rw [if_pos h]
    exact parse_no s hs w h
  · rw [if_neg h]
    have h' : okText (bs s) = true := by simpa using h
    cases hi : fi 58 (bs s) with
    | some i =>
      show Calls Try.prog 27 #[.string s] w (ParseRes (if okEpoch ((bs s).take i) = false then none else parse2 ((bs s).take i) ((bs s).drop (i + 1))) w)
      by_cases hE : okEpoch ((bs s).take i) = false
      · rw [if_pos hE]
        exact parse_epoch s hs w h' i hi hE
      · rw [if_neg hE]
        exact parse_tail_e s hs w h' i hi (by simpa using hE)
    | none => exact parse_tail_n s hs w h' hi
end Go.Proofs.Ytgeimldijagkkaa
