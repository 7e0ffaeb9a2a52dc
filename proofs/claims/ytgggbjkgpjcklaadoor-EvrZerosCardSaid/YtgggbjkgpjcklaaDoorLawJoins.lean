/-
  The walk of EvrJoins: it answers true. Helper text (printed by gen_joins.py); the conditions are those typed.
-/
import Derived.Test.YtgggbjkgpjcklaaDoorLawSpans
import Derived.Test.YtgggbjkgpjcklaaDoorJoinsLaw
namespace Go.Proofs.YtgggbjkgpjcklaaDoor
set_option linter.unusedVariables false
set_option linter.unusedSimpArgs false
open Go.RowKit

theorem bs_ext {a b : ByteArray} (h : bs a = bs b) : a = b := by
  rw [← Lib.mk_data a, ← Lib.mk_data b]
  show (⟨(bs a).toArray⟩ : ByteArray) = ⟨(bs b).toArray⟩
  rw [h]
theorem bs_app (a b : ByteArray) : bs (a ++ b) = bs a ++ bs b := by
  show (a ++ b).data.toList = _
  rw [ByteArray.data_append, Array.toList_append]
theorem size_app (a b : ByteArray) : (a ++ b).size = a.size + b.size := by
  rw [← bs_length, bs_app, List.length_append, bs_length, bs_length]

theorem joins_none (s : ByteArray) (k : Int) (hA : Par s ⟨#[]⟩ ⟨#[]⟩ ⟨#[]⟩ 30) (w : World) :
    Calls Tryd.prog 8 #[.string s, .int .i64 k] w fun en w' => en = .returned (.bool true) ∧ Below w.heap.size w w' := by
  have H0 := Lib.hid awake_c
  have HA := Lib.hid hA
  clear hA
  go_enter Tryd.func8, Tryd.ntmps8
  go_wp2_with fail
  refine (H0.out _).mono ?_
  rintro e w1 ⟨rfl, hb⟩
  have HB1 := Lib.hid hb
  clear hb
  go_wp2_with fail
  refine (HA.out _).mono ?_
  rintro e w2 ⟨rfl, hb⟩
  have HB2 := Lib.hid (below_tr HB1.out hb)
  clear hb HB1
  go_wp2
  go_ret
  exact ⟨rfl, below_tr HB2.out (below1 w2 _)⟩

set_option maxHeartbeats 1000000 in
theorem joins_up00 (s : ByteArray) (hs : s.size ≤ 9223372036854775807) (k : Int) (v : ByteArray) (ht : v = s) (lv : v.size ≤ 60) (hA : Par s ⟨#[]⟩ v ⟨#[]⟩ 0) (h : (k ≠ 1 ∧ k ≠ 2) ∨ 50 < s.size) (w : World) :
    Calls Tryd.prog 8 #[.string s, .int .i64 k] w fun en w' => en = .returned (.bool true) ∧ Below w.heap.size w w' := by
  have H0 := Lib.hid awake_c
  have HA := Lib.hid hA
  clear hA
  subst ht
  by_cases hk : k = 1
  · subst hk
    have hl : (50 : Int) < ((v.size : Nat) : Int) := by omega
    clear h
    go_enter Tryd.func8, Tryd.ntmps8
    go_wp2_with fail
    refine (H0.out _).mono ?_
    rintro e w1 ⟨rfl, hb⟩
    have HB1 := Lib.hid hb
    clear hb
    go_wp2_with fail
    refine (HA.out _).mono ?_
    rintro e w2 ⟨rfl, hb⟩
    have HB2 := Lib.hid (below_tr HB1.out (below_tr hb (below1 w2 (.cells #[.string ⟨#[]⟩, .string v, .string ⟨#[]⟩] 24))))
    clear hb HB1
    go_wp2
    go_ret
    exact ⟨rfl, HB2.out⟩
  · have b1 : (k != 1) = true := by simpa using hk
    by_cases hk2 : k = 2
    · subst hk2
      have hl : (50 : Int) < ((v.size : Nat) : Int) := by omega
      clear b1 hk h
      go_enter Tryd.func8, Tryd.ntmps8
      go_wp2_with fail
      refine (H0.out _).mono ?_
      rintro e w1 ⟨rfl, hb⟩
      have HB1 := Lib.hid hb
      clear hb
      go_wp2_with fail
      refine (HA.out _).mono ?_
      rintro e w2 ⟨rfl, hb⟩
      have HB2 := Lib.hid (below_tr HB1.out (below_tr hb (below1 w2 (.cells #[.string ⟨#[]⟩, .string v, .string ⟨#[]⟩] 24))))
      clear hb HB1
      go_wp2
      go_ret
      exact ⟨rfl, HB2.out⟩
    · have b2 : (k != 2) = true := by simpa using hk2
      clear hk hk2 h
      go_enter Tryd.func8, Tryd.ntmps8
      go_wp2_with fail
      refine (H0.out _).mono ?_
      rintro e w1 ⟨rfl, hb⟩
      have HB1 := Lib.hid hb
      clear hb
      go_wp2_with fail
      refine (HA.out _).mono ?_
      rintro e w2 ⟨rfl, hb⟩
      have HB2 := Lib.hid (below_tr HB1.out (below_tr hb (below1 w2 (.cells #[.string ⟨#[]⟩, .string v, .string ⟨#[]⟩] 24))))
      clear hb HB1
      go_wp2
      go_ret
      exact ⟨rfl, HB2.out⟩

set_option maxHeartbeats 1000000 in
theorem joins_up01 (s : ByteArray) (hs : s.size ≤ 9223372036854775807) (k : Int) (v : ByteArray) (r : ByteArray) (ht : ((v ++ (⟨#[45]⟩ : ByteArray)) ++ r) = s) (lv : v.size ≤ 60) (nr : r.toList.isEmpty = false) (lr : r.size ≤ 60) (hA : Par s ⟨#[]⟩ v r 0) (h : (k ≠ 1 ∧ k ≠ 2) ∨ 50 < s.size) (w : World) :
    Calls Tryd.prog 8 #[.string s, .int .i64 k] w fun en w' => en = .returned (.bool true) ∧ Below w.heap.size w w' := by
  have H0 := Lib.hid awake_c
  have HA := Lib.hid hA
  clear hA
  have z3 : ¬ v.size + (⟨#[45]⟩ : ByteArray).size > 9223372036854775807 := by have : (⟨#[45]⟩ : ByteArray).size = 1 := rfl; omega
  have z4 : ¬ (v ++ (⟨#[45]⟩ : ByteArray)).size + r.size > 9223372036854775807 := by rw [size_app]; have : (⟨#[45]⟩ : ByteArray).size = 1 := rfl; omega
  by_cases hk : k = 1
  · subst hk
    have hl : (50 : Int) < ((s.size : Nat) : Int) := by omega
    clear h
    go_enter Tryd.func8, Tryd.ntmps8
    go_wp2_with fail
    refine (H0.out _).mono ?_
    rintro e w1 ⟨rfl, hb⟩
    have HB1 := Lib.hid hb
    clear hb
    go_wp2_with fail
    refine (HA.out _).mono ?_
    rintro e w2 ⟨rfl, hb⟩
    have HB2 := Lib.hid (below_tr HB1.out (below_tr hb (below1 w2 (.cells #[.string ⟨#[]⟩, .string v, .string r] 24))))
    clear hb HB1
    go_wp2
    go_ret
    exact ⟨rfl, HB2.out⟩
  · have b1 : (k != 1) = true := by simpa using hk
    by_cases hk2 : k = 2
    · subst hk2
      have hl : (50 : Int) < ((s.size : Nat) : Int) := by omega
      clear b1 hk h
      go_enter Tryd.func8, Tryd.ntmps8
      go_wp2_with fail
      refine (H0.out _).mono ?_
      rintro e w1 ⟨rfl, hb⟩
      have HB1 := Lib.hid hb
      clear hb
      go_wp2_with fail
      refine (HA.out _).mono ?_
      rintro e w2 ⟨rfl, hb⟩
      have HB2 := Lib.hid (below_tr HB1.out (below_tr hb (below1 w2 (.cells #[.string ⟨#[]⟩, .string v, .string r] 24))))
      clear hb HB1
      go_wp2
      go_ret
      exact ⟨rfl, HB2.out⟩
    · have b2 : (k != 2) = true := by simpa using hk2
      clear hk hk2 h
      go_enter Tryd.func8, Tryd.ntmps8
      go_wp2_with fail
      refine (H0.out _).mono ?_
      rintro e w1 ⟨rfl, hb⟩
      have HB1 := Lib.hid hb
      clear hb
      go_wp2_with fail
      refine (HA.out _).mono ?_
      rintro e w2 ⟨rfl, hb⟩
      have HB2 := Lib.hid (below_tr HB1.out (below_tr hb (below1 w2 (.cells #[.string ⟨#[]⟩, .string v, .string r] 24))))
      clear hb HB1
      go_wp2
      go_ret
      exact ⟨rfl, HB2.out⟩

set_option maxHeartbeats 1000000 in
theorem joins_up10 (s : ByteArray) (hs : s.size ≤ 9223372036854775807) (k : Int) (e : ByteArray) (v : ByteArray) (ht : ((e ++ (⟨#[58]⟩ : ByteArray)) ++ v) = s) (ne : e.toList.isEmpty = false) (le : e.size ≤ 60) (lv : v.size ≤ 60) (hA : Par s e v ⟨#[]⟩ 0) (w : World) :
    Calls Tryd.prog 8 #[.string s, .int .i64 k] w fun en w' => en = .returned (.bool true) ∧ Below w.heap.size w w' := by
  have H0 := Lib.hid awake_c
  have HA := Lib.hid hA
  clear hA
  have z1 : ¬ e.size + (⟨#[58]⟩ : ByteArray).size > 9223372036854775807 := by have : (⟨#[58]⟩ : ByteArray).size = 1 := rfl; omega
  have z2 : ¬ (e ++ (⟨#[58]⟩ : ByteArray)).size + v.size > 9223372036854775807 := by rw [size_app]; have : (⟨#[58]⟩ : ByteArray).size = 1 := rfl; omega
  by_cases hk : k = 1
  · subst hk
    go_enter Tryd.func8, Tryd.ntmps8
    go_wp2_with fail
    refine (H0.out _).mono ?_
    rintro e w1 ⟨rfl, hb⟩
    have HB1 := Lib.hid hb
    clear hb
    go_wp2_with fail
    refine (HA.out _).mono ?_
    rintro e w2 ⟨rfl, hb⟩
    have HB2 := Lib.hid (below_tr HB1.out (below_tr hb (below1 w2 (.cells #[.string e, .string v, .string ⟨#[]⟩] 24))))
    clear hb HB1
    go_wp2
    go_ret
    exact ⟨rfl, HB2.out⟩
  · have b1 : (k != 1) = true := by simpa using hk
    by_cases hk2 : k = 2
    · subst hk2
      clear b1 hk
      go_enter Tryd.func8, Tryd.ntmps8
      go_wp2_with fail
      refine (H0.out _).mono ?_
      rintro e w1 ⟨rfl, hb⟩
      have HB1 := Lib.hid hb
      clear hb
      go_wp2_with fail
      refine (HA.out _).mono ?_
      rintro e w2 ⟨rfl, hb⟩
      have HB2 := Lib.hid (below_tr HB1.out (below_tr hb (below1 w2 (.cells #[.string e, .string v, .string ⟨#[]⟩] 24))))
      clear hb HB1
      go_wp2
      go_ret
      exact ⟨rfl, HB2.out⟩
    · have b2 : (k != 2) = true := by simpa using hk2
      clear hk hk2
      go_enter Tryd.func8, Tryd.ntmps8
      go_wp2_with fail
      refine (H0.out _).mono ?_
      rintro e w1 ⟨rfl, hb⟩
      have HB1 := Lib.hid hb
      clear hb
      go_wp2_with fail
      refine (HA.out _).mono ?_
      rintro e w2 ⟨rfl, hb⟩
      have HB2 := Lib.hid (below_tr HB1.out (below_tr hb (below1 w2 (.cells #[.string e, .string v, .string ⟨#[]⟩] 24))))
      clear hb HB1
      go_wp2
      go_ret
      exact ⟨rfl, HB2.out⟩

set_option maxHeartbeats 1000000 in
theorem joins_up11 (s : ByteArray) (hs : s.size ≤ 9223372036854775807) (k : Int) (e : ByteArray) (v : ByteArray) (r : ByteArray) (ht : ((((e ++ (⟨#[58]⟩ : ByteArray)) ++ v) ++ (⟨#[45]⟩ : ByteArray)) ++ r) = s) (ne : e.toList.isEmpty = false) (le : e.size ≤ 60) (lv : v.size ≤ 60) (nr : r.toList.isEmpty = false) (lr : r.size ≤ 60) (hA : Par s e v r 0) (w : World) :
    Calls Tryd.prog 8 #[.string s, .int .i64 k] w fun en w' => en = .returned (.bool true) ∧ Below w.heap.size w w' := by
  have H0 := Lib.hid awake_c
  have HA := Lib.hid hA
  clear hA
  have z1 : ¬ e.size + (⟨#[58]⟩ : ByteArray).size > 9223372036854775807 := by have : (⟨#[58]⟩ : ByteArray).size = 1 := rfl; omega
  have z2 : ¬ (e ++ (⟨#[58]⟩ : ByteArray)).size + v.size > 9223372036854775807 := by rw [size_app]; have : (⟨#[58]⟩ : ByteArray).size = 1 := rfl; omega
  have z3 : ¬ ((e ++ (⟨#[58]⟩ : ByteArray)) ++ v).size + (⟨#[45]⟩ : ByteArray).size > 9223372036854775807 := by rw [size_app, size_app]; have : (⟨#[45]⟩ : ByteArray).size = 1 := rfl; have : (⟨#[58]⟩ : ByteArray).size = 1 := rfl; omega
  have z4 : ¬ (((e ++ (⟨#[58]⟩ : ByteArray)) ++ v) ++ (⟨#[45]⟩ : ByteArray)).size + r.size > 9223372036854775807 := by rw [size_app, size_app, size_app]; have : (⟨#[45]⟩ : ByteArray).size = 1 := rfl; have : (⟨#[58]⟩ : ByteArray).size = 1 := rfl; omega
  by_cases hk : k = 1
  · subst hk
    go_enter Tryd.func8, Tryd.ntmps8
    go_wp2_with fail
    refine (H0.out _).mono ?_
    rintro e w1 ⟨rfl, hb⟩
    have HB1 := Lib.hid hb
    clear hb
    go_wp2_with fail
    refine (HA.out _).mono ?_
    rintro e w2 ⟨rfl, hb⟩
    have HB2 := Lib.hid (below_tr HB1.out (below_tr hb (below1 w2 (.cells #[.string e, .string v, .string r] 24))))
    clear hb HB1
    go_wp2
    go_ret
    exact ⟨rfl, HB2.out⟩
  · have b1 : (k != 1) = true := by simpa using hk
    by_cases hk2 : k = 2
    · subst hk2
      clear b1 hk
      go_enter Tryd.func8, Tryd.ntmps8
      go_wp2_with fail
      refine (H0.out _).mono ?_
      rintro e w1 ⟨rfl, hb⟩
      have HB1 := Lib.hid hb
      clear hb
      go_wp2_with fail
      refine (HA.out _).mono ?_
      rintro e w2 ⟨rfl, hb⟩
      have HB2 := Lib.hid (below_tr HB1.out (below_tr hb (below1 w2 (.cells #[.string e, .string v, .string r] 24))))
      clear hb HB1
      go_wp2
      go_ret
      exact ⟨rfl, HB2.out⟩
    · have b2 : (k != 2) = true := by simpa using hk2
      clear hk hk2
      go_enter Tryd.func8, Tryd.ntmps8
      go_wp2_with fail
      refine (H0.out _).mono ?_
      rintro e w1 ⟨rfl, hb⟩
      have HB1 := Lib.hid hb
      clear hb
      go_wp2_with fail
      refine (HA.out _).mono ?_
      rintro e w2 ⟨rfl, hb⟩
      have HB2 := Lib.hid (below_tr HB1.out (below_tr hb (below1 w2 (.cells #[.string e, .string v, .string r] 24))))
      clear hb HB1
      go_wp2
      go_ret
      exact ⟨rfl, HB2.out⟩

set_option maxHeartbeats 1000000 in
theorem joins_main00 (k : Int) (hk : k = 1 ∨ k = 2) (v : ByteArray) (lv : v.size ≤ 60) (qe qv qr : ByteArray) (qn : Int) (hs : v.size ≤ 50) (hA : Par v ⟨#[]⟩ v ⟨#[]⟩ 0) (hL : Cmp k v ((⟨#[49, 58]⟩ : ByteArray) ++ v) (-1) 0) (hS : Cmp k v ((⟨#[48, 58]⟩ : ByteArray) ++ v) 0 0) (hQ : Par v qe qv qr qn) (hne : ¬ (qe.toList = [] ∧ qv.toList = v.toList ∧ qr.toList = [])) (x : Bool) (y : Int) (hM : Mee k 2 2 v v x y) (w : World) :
    Calls Tryd.prog 8 #[.string v, .int .i64 k] w fun en w' => en = .returned (.bool true) ∧ Below w.heap.size w w' := by
  have H0 := Lib.hid awake_c
  have HA := Lib.hid hA
  have HL := Lib.hid hL
  have HS := Lib.hid hS
  have HQ := Lib.hid hQ
  have HM := Lib.hid hM
  clear hA hL hS hQ hM
  have hl : ¬ (50 : Int) < ((v.size : Nat) : Int) := by omega
  have z5 : ¬ (⟨#[49, 58]⟩ : ByteArray).size + v.size > 9223372036854775807 := by have : (⟨#[49, 58]⟩ : ByteArray).size = 2 := rfl; omega
  have z6 : ¬ (⟨#[48, 58]⟩ : ByteArray).size + v.size > 9223372036854775807 := by have : (⟨#[48, 58]⟩ : ByteArray).size = 2 := rfl; omega
  have HN := Lib.hid hne
  clear hne

  rcases hk with rfl | rfl
  all_goals
    go_enter Tryd.func8, Tryd.ntmps8
    go_wp2_with fail
    refine (H0.out _).mono ?_
    rintro e w1 ⟨rfl, hb⟩
    have HB1 := Lib.hid hb
    clear hb
    go_wp2_with fail
    refine (HA.out _).mono ?_
    rintro e w2 ⟨rfl, hb⟩
    have HB2 := Lib.hid (below_tr HB1.out (below_tr hb (below1 w2 (.cells #[.string ⟨#[]⟩, .string v, .string ⟨#[]⟩] 24))))
    have HX := Lib.hid (Box3.of (alloc_at w2 (.cells #[.string ⟨#[]⟩, .string v, .string ⟨#[]⟩] 24)))
    clear hb HB1
    go_wp2_with fail
    refine (HL.out _).mono ?_
    rintro e w3 ⟨rfl, hb⟩
    have HB3 := Lib.hid (below_tr HB2.out hb)
    have HX3 := Lib.hid (HX.out.below hb)
    clear hb HB2 HX
    go_wp2_with fail
    refine (HS.out _).mono ?_
    rintro e w4 ⟨rfl, hb⟩
    have HB4 := Lib.hid (below_tr HB3.out hb)
    have HX4 := Lib.hid (HX3.out.below hb)
    have x4 := HX4.out
    clear hb HB3 HX3
    obtain ⟨_, _, _, _, _, _, _⟩ := x4
    go_wp2_with fail
    refine (HQ.out _).mono ?_
    rintro e w5 ⟨rfl, hb⟩
    have HB5 := Lib.hid (below_tr HB4.out (below_tr hb (below1 w5 (.cells #[.string qe, .string qv, .string qr] 24))))
    have HX5 := Lib.hid ((HX4.out.below hb).below (below1 w5 (.cells #[.string qe, .string qv, .string qr] 24)))
    have HY := Lib.hid (Box3.of (alloc_at w5 (.cells #[.string qe, .string qv, .string qr] 24)))
    clear hb HB4 HX4
    have x5 := HX5.out
    obtain ⟨_, _, _, _, _, _, _⟩ := x5
    go_wp2_with fail
    refine (HM.out _).mono ?_
    rintro e w6 ⟨rfl, hb⟩
    have HB6 := Lib.hid (below_tr HB5.out hb)
    have x6 := HX5.out.below hb
    have y6 := HY.out.below hb
    clear hb HB5 HX5 HY
    obtain ⟨_, _, _, _, _, _, _⟩ := x6
    obtain ⟨_, _, _, _, _, _, _⟩ := y6
    go_wp2
    all_goals first | (exfalso; exact HN.out ⟨by assumption, by assumption, by assumption⟩) | (go_ret; exact ⟨rfl, HB6.out⟩)

set_option maxHeartbeats 1000000 in
theorem joins_main01 (k : Int) (hk : k = 1 ∨ k = 2) (v : ByteArray) (lv : v.size ≤ 60) (hs : v.size ≤ 50) (hA : Par v ⟨#[]⟩ v ⟨#[]⟩ 0) (hL : Cmp k v ((⟨#[49, 58]⟩ : ByteArray) ++ v) (-1) 0) (hS : Cmp k v ((⟨#[48, 58]⟩ : ByteArray) ++ v) 0 0) (hQ : Par v ⟨#[]⟩ v ⟨#[]⟩ 0) (x : Bool) (y : Int) (hM : Mee k 2 2 v v x y) (hx : x = true) (hy : y = 0) (w : World) :
    Calls Tryd.prog 8 #[.string v, .int .i64 k] w fun en w' => en = .returned (.bool true) ∧ Below w.heap.size w w' := by
  have H0 := Lib.hid awake_c
  have HA := Lib.hid hA
  have HL := Lib.hid hL
  have HS := Lib.hid hS
  have HQ := Lib.hid hQ
  have HM := Lib.hid hM
  clear hA hL hS hQ hM
  have hl : ¬ (50 : Int) < ((v.size : Nat) : Int) := by omega
  have z5 : ¬ (⟨#[49, 58]⟩ : ByteArray).size + v.size > 9223372036854775807 := by have : (⟨#[49, 58]⟩ : ByteArray).size = 2 := rfl; omega
  have z6 : ¬ (⟨#[48, 58]⟩ : ByteArray).size + v.size > 9223372036854775807 := by have : (⟨#[48, 58]⟩ : ByteArray).size = 2 := rfl; omega
  subst hx
  subst hy
  rcases hk with rfl | rfl
  all_goals
    go_enter Tryd.func8, Tryd.ntmps8
    go_wp2_with fail
    refine (H0.out _).mono ?_
    rintro e w1 ⟨rfl, hb⟩
    have HB1 := Lib.hid hb
    clear hb
    go_wp2_with fail
    refine (HA.out _).mono ?_
    rintro e w2 ⟨rfl, hb⟩
    have HB2 := Lib.hid (below_tr HB1.out (below_tr hb (below1 w2 (.cells #[.string ⟨#[]⟩, .string v, .string ⟨#[]⟩] 24))))
    have HX := Lib.hid (Box3.of (alloc_at w2 (.cells #[.string ⟨#[]⟩, .string v, .string ⟨#[]⟩] 24)))
    clear hb HB1
    go_wp2_with fail
    refine (HL.out _).mono ?_
    rintro e w3 ⟨rfl, hb⟩
    have HB3 := Lib.hid (below_tr HB2.out hb)
    have HX3 := Lib.hid (HX.out.below hb)
    clear hb HB2 HX
    go_wp2_with fail
    refine (HS.out _).mono ?_
    rintro e w4 ⟨rfl, hb⟩
    have HB4 := Lib.hid (below_tr HB3.out hb)
    have HX4 := Lib.hid (HX3.out.below hb)
    have x4 := HX4.out
    clear hb HB3 HX3
    obtain ⟨_, _, _, _, _, _, _⟩ := x4
    go_wp2_with fail
    refine (HQ.out _).mono ?_
    rintro e w5 ⟨rfl, hb⟩
    have HB5 := Lib.hid (below_tr HB4.out (below_tr hb (below1 w5 (.cells #[.string ⟨#[]⟩, .string v, .string ⟨#[]⟩] 24))))
    have HX5 := Lib.hid ((HX4.out.below hb).below (below1 w5 (.cells #[.string ⟨#[]⟩, .string v, .string ⟨#[]⟩] 24)))
    have HY := Lib.hid (Box3.of (alloc_at w5 (.cells #[.string ⟨#[]⟩, .string v, .string ⟨#[]⟩] 24)))
    clear hb HB4 HX4
    have x5 := HX5.out
    obtain ⟨_, _, _, _, _, _, _⟩ := x5
    go_wp2_with fail
    refine (HM.out _).mono ?_
    rintro e w6 ⟨rfl, hb⟩
    have HB6 := Lib.hid (below_tr HB5.out hb)
    have x6 := HX5.out.below hb
    have y6 := HY.out.below hb
    clear hb HB5 HX5 HY
    obtain ⟨_, _, _, _, _, _, _⟩ := x6
    obtain ⟨_, _, _, _, _, _, _⟩ := y6
    go_wp2
    go_ret
    exact ⟨rfl, HB6.out⟩

set_option maxHeartbeats 1000000 in
theorem joins_main10 (s : ByteArray) (k : Int) (hk : k = 1 ∨ k = 2) (v : ByteArray) (r : ByteArray) (ht : ((v ++ (⟨#[45]⟩ : ByteArray)) ++ r) = s) (lv : v.size ≤ 60) (nr : r.toList.isEmpty = false) (lr : r.size ≤ 60) (qe qv qr : ByteArray) (qn : Int) (hs : s.size ≤ 50) (hA : Par s ⟨#[]⟩ v r 0) (hL : Cmp k s ((⟨#[49, 58]⟩ : ByteArray) ++ s) (-1) 0) (hS : Cmp k s ((⟨#[48, 58]⟩ : ByteArray) ++ s) 0 0) (hQ : Par v qe qv qr qn) (hne : ¬ (qe.toList = [] ∧ qv.toList = v.toList ∧ qr.toList = [])) (x : Bool) (y : Int) (hM : Mee k 2 2 v s x y) (w : World) :
    Calls Tryd.prog 8 #[.string s, .int .i64 k] w fun en w' => en = .returned (.bool true) ∧ Below w.heap.size w w' := by
  have H0 := Lib.hid awake_c
  have HA := Lib.hid hA
  have HL := Lib.hid hL
  have HS := Lib.hid hS
  have HQ := Lib.hid hQ
  have HM := Lib.hid hM
  clear hA hL hS hQ hM
  have z3 : ¬ v.size + (⟨#[45]⟩ : ByteArray).size > 9223372036854775807 := by have : (⟨#[45]⟩ : ByteArray).size = 1 := rfl; omega
  have z4 : ¬ (v ++ (⟨#[45]⟩ : ByteArray)).size + r.size > 9223372036854775807 := by rw [size_app]; have : (⟨#[45]⟩ : ByteArray).size = 1 := rfl; omega
  have hl : ¬ (50 : Int) < ((s.size : Nat) : Int) := by omega
  have z5 : ¬ (⟨#[49, 58]⟩ : ByteArray).size + s.size > 9223372036854775807 := by have : (⟨#[49, 58]⟩ : ByteArray).size = 2 := rfl; omega
  have z6 : ¬ (⟨#[48, 58]⟩ : ByteArray).size + s.size > 9223372036854775807 := by have : (⟨#[48, 58]⟩ : ByteArray).size = 2 := rfl; omega
  have HN := Lib.hid hne
  clear hne

  rcases hk with rfl | rfl
  all_goals
    go_enter Tryd.func8, Tryd.ntmps8
    go_wp2_with fail
    refine (H0.out _).mono ?_
    rintro e w1 ⟨rfl, hb⟩
    have HB1 := Lib.hid hb
    clear hb
    go_wp2_with fail
    refine (HA.out _).mono ?_
    rintro e w2 ⟨rfl, hb⟩
    have HB2 := Lib.hid (below_tr HB1.out (below_tr hb (below1 w2 (.cells #[.string ⟨#[]⟩, .string v, .string r] 24))))
    have HX := Lib.hid (Box3.of (alloc_at w2 (.cells #[.string ⟨#[]⟩, .string v, .string r] 24)))
    clear hb HB1
    go_wp2_with fail
    refine (HL.out _).mono ?_
    rintro e w3 ⟨rfl, hb⟩
    have HB3 := Lib.hid (below_tr HB2.out hb)
    have HX3 := Lib.hid (HX.out.below hb)
    clear hb HB2 HX
    go_wp2_with fail
    refine (HS.out _).mono ?_
    rintro e w4 ⟨rfl, hb⟩
    have HB4 := Lib.hid (below_tr HB3.out hb)
    have HX4 := Lib.hid (HX3.out.below hb)
    have x4 := HX4.out
    clear hb HB3 HX3
    obtain ⟨_, _, _, _, _, _, _⟩ := x4
    go_wp2_with fail
    refine (HQ.out _).mono ?_
    rintro e w5 ⟨rfl, hb⟩
    have HB5 := Lib.hid (below_tr HB4.out (below_tr hb (below1 w5 (.cells #[.string qe, .string qv, .string qr] 24))))
    have HX5 := Lib.hid ((HX4.out.below hb).below (below1 w5 (.cells #[.string qe, .string qv, .string qr] 24)))
    have HY := Lib.hid (Box3.of (alloc_at w5 (.cells #[.string qe, .string qv, .string qr] 24)))
    clear hb HB4 HX4
    have x5 := HX5.out
    obtain ⟨_, _, _, _, _, _, _⟩ := x5
    go_wp2_with fail
    refine (HM.out _).mono ?_
    rintro e w6 ⟨rfl, hb⟩
    have HB6 := Lib.hid (below_tr HB5.out hb)
    have x6 := HX5.out.below hb
    have y6 := HY.out.below hb
    clear hb HB5 HX5 HY
    obtain ⟨_, _, _, _, _, _, _⟩ := x6
    obtain ⟨_, _, _, _, _, _, _⟩ := y6
    go_wp2
    all_goals first | (exfalso; exact HN.out ⟨by assumption, by assumption, by assumption⟩) | (go_ret; exact ⟨rfl, HB6.out⟩)

set_option maxHeartbeats 1000000 in
theorem joins_main11 (s : ByteArray) (k : Int) (hk : k = 1 ∨ k = 2) (v : ByteArray) (r : ByteArray) (ht : ((v ++ (⟨#[45]⟩ : ByteArray)) ++ r) = s) (lv : v.size ≤ 60) (nr : r.toList.isEmpty = false) (lr : r.size ≤ 60) (hs : s.size ≤ 50) (hA : Par s ⟨#[]⟩ v r 0) (hL : Cmp k s ((⟨#[49, 58]⟩ : ByteArray) ++ s) (-1) 0) (hS : Cmp k s ((⟨#[48, 58]⟩ : ByteArray) ++ s) 0 0) (hQ : Par v ⟨#[]⟩ v ⟨#[]⟩ 0) (x : Bool) (y : Int) (hM : Mee k 2 2 v s x y) (hx : x = true) (hy : y = 0) (w : World) :
    Calls Tryd.prog 8 #[.string s, .int .i64 k] w fun en w' => en = .returned (.bool true) ∧ Below w.heap.size w w' := by
  have H0 := Lib.hid awake_c
  have HA := Lib.hid hA
  have HL := Lib.hid hL
  have HS := Lib.hid hS
  have HQ := Lib.hid hQ
  have HM := Lib.hid hM
  clear hA hL hS hQ hM
  have z3 : ¬ v.size + (⟨#[45]⟩ : ByteArray).size > 9223372036854775807 := by have : (⟨#[45]⟩ : ByteArray).size = 1 := rfl; omega
  have z4 : ¬ (v ++ (⟨#[45]⟩ : ByteArray)).size + r.size > 9223372036854775807 := by rw [size_app]; have : (⟨#[45]⟩ : ByteArray).size = 1 := rfl; omega
  have hl : ¬ (50 : Int) < ((s.size : Nat) : Int) := by omega
  have z5 : ¬ (⟨#[49, 58]⟩ : ByteArray).size + s.size > 9223372036854775807 := by have : (⟨#[49, 58]⟩ : ByteArray).size = 2 := rfl; omega
  have z6 : ¬ (⟨#[48, 58]⟩ : ByteArray).size + s.size > 9223372036854775807 := by have : (⟨#[48, 58]⟩ : ByteArray).size = 2 := rfl; omega
  subst hx
  subst hy
  rcases hk with rfl | rfl
  all_goals
    go_enter Tryd.func8, Tryd.ntmps8
    go_wp2_with fail
    refine (H0.out _).mono ?_
    rintro e w1 ⟨rfl, hb⟩
    have HB1 := Lib.hid hb
    clear hb
    go_wp2_with fail
    refine (HA.out _).mono ?_
    rintro e w2 ⟨rfl, hb⟩
    have HB2 := Lib.hid (below_tr HB1.out (below_tr hb (below1 w2 (.cells #[.string ⟨#[]⟩, .string v, .string r] 24))))
    have HX := Lib.hid (Box3.of (alloc_at w2 (.cells #[.string ⟨#[]⟩, .string v, .string r] 24)))
    clear hb HB1
    go_wp2_with fail
    refine (HL.out _).mono ?_
    rintro e w3 ⟨rfl, hb⟩
    have HB3 := Lib.hid (below_tr HB2.out hb)
    have HX3 := Lib.hid (HX.out.below hb)
    clear hb HB2 HX
    go_wp2_with fail
    refine (HS.out _).mono ?_
    rintro e w4 ⟨rfl, hb⟩
    have HB4 := Lib.hid (below_tr HB3.out hb)
    have HX4 := Lib.hid (HX3.out.below hb)
    have x4 := HX4.out
    clear hb HB3 HX3
    obtain ⟨_, _, _, _, _, _, _⟩ := x4
    go_wp2_with fail
    refine (HQ.out _).mono ?_
    rintro e w5 ⟨rfl, hb⟩
    have HB5 := Lib.hid (below_tr HB4.out (below_tr hb (below1 w5 (.cells #[.string ⟨#[]⟩, .string v, .string ⟨#[]⟩] 24))))
    have HX5 := Lib.hid ((HX4.out.below hb).below (below1 w5 (.cells #[.string ⟨#[]⟩, .string v, .string ⟨#[]⟩] 24)))
    have HY := Lib.hid (Box3.of (alloc_at w5 (.cells #[.string ⟨#[]⟩, .string v, .string ⟨#[]⟩] 24)))
    clear hb HB4 HX4
    have x5 := HX5.out
    obtain ⟨_, _, _, _, _, _, _⟩ := x5
    go_wp2_with fail
    refine (HM.out _).mono ?_
    rintro e w6 ⟨rfl, hb⟩
    have HB6 := Lib.hid (below_tr HB5.out hb)
    have x6 := HX5.out.below hb
    have y6 := HY.out.below hb
    clear hb HB5 HX5 HY
    obtain ⟨_, _, _, _, _, _, _⟩ := x6
    obtain ⟨_, _, _, _, _, _, _⟩ := y6
    go_wp2
    go_ret
    exact ⟨rfl, HB6.out⟩

theorem joins_walk (s : ByteArray) (k : Int) (hs : s.size ≤ maxLen) (w : World) :
    Calls Tryd.prog 8 #[.string s, .int .i64 k] w fun en w' => en = .returned (.bool true) ∧ Below w.heap.size w w' := by
  have hs' : s.size ≤ 9223372036854775807 := hs
  rcases Par.of hs with ⟨e, v, r, hA, pa⟩ | ⟨hA, pa⟩
  · obtain ⟨l1, l2, l3⟩ := parse_len pa
    simp only [bs_length] at l1 l2 l3
    obtain ⟨jv, jl⟩ := parse_join pa
    simp only at jv jl
    by_cases he : e.size = 0
    · obtain rfl := bs_zero he
      have e0 : bs (⟨#[]⟩ : ByteArray) = [] := rfl
      rw [if_pos e0, List.nil_append] at jl
      by_cases hr : r.size = 0
      · obtain rfl := bs_zero hr
        rw [if_pos e0, List.append_nil] at jl
        have hv : v = s := (bs_ext jl).symm
        by_cases hc : (k ≠ 1 ∧ k ≠ 2) ∨ 50 < s.size
        · exact joins_up00 s hs' k v hv l2 hA hc w
        · subst hv
          have hk : k = 1 ∨ k = 2 := by omega
          have h50 : v.size ≤ 50 := by omega
          have hL := Cmp.of (k := k) (a := v) (b := (⟨#[49, 58]⟩ : ByteArray) ++ v) hs (by rw [size_app]; have : (⟨#[49, 58]⟩ : ByteArray).size = 2 := rfl; unfold maxLen; omega)
          have hS := Cmp.of (k := k) (a := v) (b := (⟨#[48, 58]⟩ : ByteArray) ++ v) hs (by rw [size_app]; have : (⟨#[48, 58]⟩ : ByteArray).size = 2 := rfl; unfold maxLen; omega)
          rw [bs_app, show bs (⟨#[49, 58]⟩ : ByteArray) ++ bs v = 49 :: 58 :: bs v from rfl, join_less hk pa rfl (by rw [bs_length]; exact h50)] at hL
          rw [bs_app, show bs (⟨#[48, 58]⟩ : ByteArray) ++ bs v = 48 :: 58 :: bs v from rfl, join_same hk pa rfl (by rw [bs_length]; exact h50)] at hS
          have hM := Mee.of (k := k) (op := 2) (o := 2) hs hs
          exact joins_main01 k hk v l2 h50 hA hL hS hA _ _ hM (by rw [join_rough hk pa rfl pa]) (by rw [join_rough hk pa rfl pa]) w
      · have hrn := bs_nonempty (s := r) (by omega)
        rw [if_neg (fun h => hr (bs_nil.1 h))] at jl
        have ht : v ++ (⟨#[45]⟩ : ByteArray) ++ r = s := bs_ext (by rw [bs_app, bs_app, jl, List.append_assoc]; rfl)
        by_cases hc : (k ≠ 1 ∧ k ≠ 2) ∨ 50 < s.size
        · exact joins_up01 s hs' k v r ht l2 hrn l3 hA hc w
        · have hk : k = 1 ∨ k = 2 := by omega
          have h50 : s.size ≤ 50 := by omega
          have hL := Cmp.of (k := k) (a := s) (b := (⟨#[49, 58]⟩ : ByteArray) ++ s) hs (by rw [size_app]; have : (⟨#[49, 58]⟩ : ByteArray).size = 2 := rfl; unfold maxLen; omega)
          have hS := Cmp.of (k := k) (a := s) (b := (⟨#[48, 58]⟩ : ByteArray) ++ s) hs (by rw [size_app]; have : (⟨#[48, 58]⟩ : ByteArray).size = 2 := rfl; unfold maxLen; omega)
          rw [bs_app, show bs (⟨#[49, 58]⟩ : ByteArray) ++ bs s = 49 :: 58 :: bs s from rfl, join_less hk pa rfl (by rw [bs_length]; exact h50)] at hL
          rw [bs_app, show bs (⟨#[48, 58]⟩ : ByteArray) ++ bs s = 48 :: 58 :: bs s from rfl, join_same hk pa rfl (by rw [bs_length]; exact h50)] at hS
          have hv : v.size ≤ maxLen := by unfold maxLen; omega
          have hM := Mee.of (k := k) (op := 2) (o := 2) hv hs
          have main : ∀ qe qv qr qn, Par v qe qv qr qn → (¬ (qe.toList = [] ∧ qv.toList = v.toList ∧ qr.toList = [])) → Calls Tryd.prog 8 #[.string s, .int .i64 k] w fun en w' => en = .returned (.bool true) ∧ Below w.heap.size w w' :=
            fun qe qv qr qn hQ hne => joins_main10 s k hk v r ht l2 hrn l3 qe qv qr qn h50 hA hL hS hQ hne _ _ hM w
          rcases Par.of hv with ⟨qe, qv, qr, hQ, pq⟩ | ⟨hQ, pq⟩
          · by_cases hw : qe.toList = [] ∧ qv.toList = v.toList ∧ qr.toList = []
            · obtain ⟨w1, w2, w3⟩ := hw
              rw [bs_toList] at w1 w3
              rw [bs_toList, bs_toList] at w2
              obtain rfl : qe = ⟨#[]⟩ := bs_zero (bs_nil.1 w1)
              obtain rfl : qr = ⟨#[]⟩ := bs_zero (bs_nil.1 w3)
              obtain rfl : qv = v := bs_ext w2
              exact joins_main11 s k hk qv r ht l2 hrn l3 h50 hA hL hS hQ _ _ hM (by rw [join_rough hk pa rfl pq]) (by rw [join_rough hk pa rfl pq]) w
            · exact main _ _ _ _ hQ hw
          · refine main _ _ _ _ hQ fun hw => ?_
            rw [bs_toList, bs_toList] at hw
            exact jv hw.2.1.symm
    · have hen := bs_nonempty (s := e) (by omega)
      rw [if_neg (fun h => he (bs_nil.1 h))] at jl
      by_cases hr : r.size = 0
      · obtain rfl := bs_zero hr
        rw [if_pos (show bs (⟨#[]⟩ : ByteArray) = [] from rfl), List.append_nil] at jl
        exact joins_up10 s hs' k e v (bs_ext (by rw [bs_app, bs_app, jl])) hen l1 l2 hA w
      · have hrn := bs_nonempty (s := r) (by omega)
        rw [if_neg (fun h => hr (bs_nil.1 h))] at jl
        exact joins_up11 s hs' k e v r (bs_ext (by rw [bs_app, bs_app, bs_app, bs_app, jl]; simp [bs])) hen l1 l2 hrn l3 hA w
  · exact joins_none s k hA w
end Go.Proofs.YtgggbjkgpjcklaaDoor
