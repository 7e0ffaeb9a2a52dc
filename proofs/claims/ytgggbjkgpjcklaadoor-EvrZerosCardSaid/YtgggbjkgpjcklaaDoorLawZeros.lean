/-
  The walk of EvrZeros: it answers true. Helper text; the conditions are those typed.
-/
import Derived.Test.YtgggbjkgpjcklaaDoorZerosLaw
import Derived.Test.YtgggbjkgpjcklaaDoorItoa
import Derived.Lib.ItoaLen
import Derived.Lib.ItoaMem
import Derived.OpenShut
namespace Go.Proofs.YtgggbjkgpjcklaaDoor
set_option linter.unusedVariables false
set_option linter.unusedSimpArgs false
open Go.RowKit

abbrev Pow (w : World) : Prop := Lib.TabIs Tryd.prog w "internal/strconv.uint64pow10" .u64 Lib.pow10Tab
theorem grow_below (w : World) (k : Nat) (os : Array Obj) : Below w.heap.size w (Sort.grow (w.drewN k) os) :=
  ⟨rfl, rfl, rfl, by simp [Sort.grow, World.drewN], fun i hi => by
    show (w.heap ++ os)[i]? = w.heap[i]?
    rw [Array.getElem?_append_left hi]⟩
theorem itoa_str (n : Int) (h0 : 0 ≤ n) (h1 : n < 100000) : ∃ D : ByteArray, (∃ d l, bs D = d :: l ∧ ∀ c ∈ d :: l, dig c = true) ∧ D.size ≤ 21 ∧
    ∀ w, Pow w → Calls Tryd.prog 18 #[.int .i64 n] w fun e w' => e = .returned (.string D) ∧ Below w.heap.size w w' := by
  refine ⟨⟨(Lib.itoa n).toArray⟩, ?_, ?_, fun w hw => ?_⟩
  · have e : bs ⟨(Lib.itoa n).toArray⟩ = Lib.decDigits n.toNat := by
      show Lib.itoa n = _
      unfold Lib.itoa
      rw [if_neg (by omega)]
    rw [e]
    cases hd : Lib.decDigits n.toNat with
    | nil => exact absurd hd (dec_ne _)
    | cons d l => exact ⟨d, l, rfl, fun c hc => dec_dig n.toNat c (by rw [hd]; exact hc)⟩
  · rw [← bs_length]
    exact Lib.itoa_length_le n (by omega) (by omega)
  · exact (Any.strconv_Itoa Tryd.laysM171 n (by omega) (by omega) w hw).mono fun e w' ⟨he, k, os, hw'⟩ => ⟨he, hw' ▸ grow_below w k os⟩

theorem gPow : Tryd.prog.globalNamed "internal/strconv.uint64pow10" = some 1 := by kernel_rfl
theorem pow_below {w w' : World} (h : Pow w) (hc : Below w.heap.size w w') : Pow w' := by
  unfold Pow Lib.TabIs World.var? at h ⊢
  rw [gPow] at h ⊢
  simp only [Option.bind_some] at h ⊢
  have hlt : 1 < w.heap.size := by
    rcases Nat.lt_or_ge 1 w.heap.size with h' | h'
    · exact h'
    · rw [Array.getElem?_eq_none h'] at h; cases h
  rw [hc.block 1 hlt]
  exact h
theorem tmod_neg' (x : Int) (h : x < 0) : 0 ≤ -((x + 1).tmod 100000) ∧ -((x + 1).tmod 100000) < 100000 := by
  have : (x + 1).tmod 100000 = -((-(x + 1)) % 100000) := by
    rw [← Int.neg_neg (x + 1), Int.neg_tmod, Int.neg_neg, Int.tmod_eq_emod_of_nonneg (by omega)]
  rw [this]
  omega

set_option maxHeartbeats 2000000 in
theorem zeros_errn (k x : Int) (r o D : ByteArray) (hx0 : -9223372036854775808 ≤ x) (hx : x < 0) (hr : r.size ≤ 140737488351232) (hD : D.size ≤ 21) (w : World) (hw : Pow w) (hI : ∀ w, Pow w → Calls Tryd.prog 18 #[.int .i64 (-((x + 1).tmod 100000))] w fun e w' => e = .returned (.string D) ∧ Below w.heap.size w w')
    (a b c e f g : Int) (h1 : Cmp k (D ++ (⟨#[46]⟩ : ByteArray) ++ r) o a e) (h2 : Cmp k ((⟨#[48]⟩ : ByteArray) ++ (D ++ (⟨#[46]⟩ : ByteArray) ++ r)) o b f) (h3 : Cmp k ((⟨#[48, 48, 48]⟩ : ByteArray) ++ (D ++ (⟨#[46]⟩ : ByteArray) ++ r)) o c g) (h : e ≠ 0 ∨ f ≠ 0 ∨ g ≠ 0) :
    Calls Tryd.prog 10 #[.int .i64 k, .int .i64 x, .string r, .string o] w fun en w' => en = .returned (.bool true) ∧ Below w.heap.size w w' := by
  have H0 := Lib.hid awake_c
  have HW := Lib.hid hw
  have HI := Lib.hid hI
  have H1 := Lib.hid h1
  have H2 := Lib.hid h2
  have H3 := Lib.hid h3
  clear hw hI h1 h2 h3
  have z1 : ¬ D.size + (⟨#[46]⟩ : ByteArray).size > 9223372036854775807 := by have : (⟨#[46]⟩ : ByteArray).size = 1 := rfl; omega
  have z2 : ¬ (D ++ (⟨#[46]⟩ : ByteArray)).size + r.size > 9223372036854775807 := by rw [size_app]; have : (⟨#[46]⟩ : ByteArray).size = 1 := rfl; omega
  have z3 : ¬ (⟨#[48]⟩ : ByteArray).size + (D ++ (⟨#[46]⟩ : ByteArray) ++ r).size > 9223372036854775807 := by rw [size_app, size_app]; have : (⟨#[46]⟩ : ByteArray).size = 1 := rfl; have : (⟨#[48]⟩ : ByteArray).size = 1 := rfl; omega
  have z4 : ¬ (⟨#[48, 48, 48]⟩ : ByteArray).size + (D ++ (⟨#[46]⟩ : ByteArray) ++ r).size > 9223372036854775807 := by rw [size_app, size_app]; have : (⟨#[46]⟩ : ByteArray).size = 1 := rfl; have : (⟨#[48, 48, 48]⟩ : ByteArray).size = 3 := rfl; omega
  have z5 : ¬ (⟨#[46]⟩ : ByteArray).size + (D ++ (⟨#[46]⟩ : ByteArray) ++ r).size > 9223372036854775807 := by rw [size_app, size_app]; have : (⟨#[46]⟩ : ByteArray).size = 1 := rfl; omega
  by_cases he : e = 0
  · by_cases hf : f = 0
    · have hg : g ≠ 0 := by
        rcases h with h | h | h
        · exact absurd he h
        · exact absurd hf h
        · exact h
      have B1 : (e != 0) = false := by simpa using he
      have B2 : (f != 0) = false := by simpa using hf
      have B3 : (g != 0) = true := by simpa using hg
      clear he hf hg h
      go_enter Tryd.func10, Tryd.ntmps10
      go_wp2_with fail
      refine (H0.out _).mono ?_
      rintro en w1 ⟨rfl, hb⟩
      have Hw1 := Lib.hid hb
      have HPW := Lib.hid (pow_below HW.out hb)
      clear hb
      go_wp2_with fail
      refine (HI.out _ HPW.out).mono ?_
      rintro en w2 ⟨rfl, hb⟩
      have Hw2 := Lib.hid (below_tr Hw1.out hb)
      clear hb Hw1 HPW
      go_wp2_with fail
      refine (H1.out _).mono ?_
      rintro en w3 ⟨rfl, hb⟩
      have Hw3 := Lib.hid (below_tr Hw2.out hb)
      clear hb Hw2
      go_wp2_with fail
      refine (H2.out _).mono ?_
      rintro en w4 ⟨rfl, hb⟩
      have Hw4 := Lib.hid (below_tr Hw3.out hb)
      clear hb Hw3
      go_wp2_with fail
      refine (H3.out _).mono ?_
      rintro en w5 ⟨rfl, hb⟩
      have Hw5 := Lib.hid (below_tr Hw4.out hb)
      clear hb Hw4
      go_wp2
      go_ret
      exact ⟨rfl, Hw5.out⟩
    · have B1 : (e != 0) = false := by simpa using he
      have B2 : (f != 0) = true := by simpa using hf
      clear he hf h
      go_enter Tryd.func10, Tryd.ntmps10
      go_wp2_with fail
      refine (H0.out _).mono ?_
      rintro en w1 ⟨rfl, hb⟩
      have Hw1 := Lib.hid hb
      have HPW := Lib.hid (pow_below HW.out hb)
      clear hb
      go_wp2_with fail
      refine (HI.out _ HPW.out).mono ?_
      rintro en w2 ⟨rfl, hb⟩
      have Hw2 := Lib.hid (below_tr Hw1.out hb)
      clear hb Hw1 HPW
      go_wp2_with fail
      refine (H1.out _).mono ?_
      rintro en w3 ⟨rfl, hb⟩
      have Hw3 := Lib.hid (below_tr Hw2.out hb)
      clear hb Hw2
      go_wp2_with fail
      refine (H2.out _).mono ?_
      rintro en w4 ⟨rfl, hb⟩
      have Hw4 := Lib.hid (below_tr Hw3.out hb)
      clear hb Hw3
      go_wp2_with fail
      refine (H3.out _).mono ?_
      rintro en w5 ⟨rfl, hb⟩
      have Hw5 := Lib.hid (below_tr Hw4.out hb)
      clear hb Hw4
      go_wp2
      go_ret
      exact ⟨rfl, Hw5.out⟩
  · have B1 : (e != 0) = true := by simpa using he
    clear he h
    go_enter Tryd.func10, Tryd.ntmps10
    go_wp2_with fail
    refine (H0.out _).mono ?_
    rintro en w1 ⟨rfl, hb⟩
    have Hw1 := Lib.hid hb
    have HPW := Lib.hid (pow_below HW.out hb)
    clear hb
    go_wp2_with fail
    refine (HI.out _ HPW.out).mono ?_
    rintro en w2 ⟨rfl, hb⟩
    have Hw2 := Lib.hid (below_tr Hw1.out hb)
    clear hb Hw1 HPW
    go_wp2_with fail
    refine (H1.out _).mono ?_
    rintro en w3 ⟨rfl, hb⟩
    have Hw3 := Lib.hid (below_tr Hw2.out hb)
    clear hb Hw2
    go_wp2_with fail
    refine (H2.out _).mono ?_
    rintro en w4 ⟨rfl, hb⟩
    have Hw4 := Lib.hid (below_tr Hw3.out hb)
    clear hb Hw3
    go_wp2_with fail
    refine (H3.out _).mono ?_
    rintro en w5 ⟨rfl, hb⟩
    have Hw5 := Lib.hid (below_tr Hw4.out hb)
    clear hb Hw4
    go_wp2
    go_ret
    exact ⟨rfl, Hw5.out⟩

set_option maxHeartbeats 2000000 in
theorem zeros_debn (k x : Int) (r o D : ByteArray) (hx0 : -9223372036854775808 ≤ x) (hx : x < 0) (hr : r.size ≤ 140737488351232) (hD : D.size ≤ 21) (w : World) (hw : Pow w) (hI : ∀ w, Pow w → Calls Tryd.prog 18 #[.int .i64 (-((x + 1).tmod 100000))] w fun e w' => e = .returned (.string D) ∧ Below w.heap.size w w')
    (a : Int) (h1 : Cmp k (D ++ (⟨#[46]⟩ : ByteArray) ++ r) o a 0) (h2 : Cmp k ((⟨#[48]⟩ : ByteArray) ++ (D ++ (⟨#[46]⟩ : ByteArray) ++ r)) o a 0) (h3 : Cmp k ((⟨#[48, 48, 48]⟩ : ByteArray) ++ (D ++ (⟨#[46]⟩ : ByteArray) ++ r)) o a 0) (hk : k ≠ 1) :
    Calls Tryd.prog 10 #[.int .i64 k, .int .i64 x, .string r, .string o] w fun en w' => en = .returned (.bool true) ∧ Below w.heap.size w w' := by
  have H0 := Lib.hid awake_c
  have HW := Lib.hid hw
  have HI := Lib.hid hI
  have H1 := Lib.hid h1
  have H2 := Lib.hid h2
  have H3 := Lib.hid h3
  clear hw hI h1 h2 h3
  have z1 : ¬ D.size + (⟨#[46]⟩ : ByteArray).size > 9223372036854775807 := by have : (⟨#[46]⟩ : ByteArray).size = 1 := rfl; omega
  have z2 : ¬ (D ++ (⟨#[46]⟩ : ByteArray)).size + r.size > 9223372036854775807 := by rw [size_app]; have : (⟨#[46]⟩ : ByteArray).size = 1 := rfl; omega
  have z3 : ¬ (⟨#[48]⟩ : ByteArray).size + (D ++ (⟨#[46]⟩ : ByteArray) ++ r).size > 9223372036854775807 := by rw [size_app, size_app]; have : (⟨#[46]⟩ : ByteArray).size = 1 := rfl; have : (⟨#[48]⟩ : ByteArray).size = 1 := rfl; omega
  have z4 : ¬ (⟨#[48, 48, 48]⟩ : ByteArray).size + (D ++ (⟨#[46]⟩ : ByteArray) ++ r).size > 9223372036854775807 := by rw [size_app, size_app]; have : (⟨#[46]⟩ : ByteArray).size = 1 := rfl; have : (⟨#[48, 48, 48]⟩ : ByteArray).size = 3 := rfl; omega
  have z5 : ¬ (⟨#[46]⟩ : ByteArray).size + (D ++ (⟨#[46]⟩ : ByteArray) ++ r).size > 9223372036854775807 := by rw [size_app, size_app]; have : (⟨#[46]⟩ : ByteArray).size = 1 := rfl; omega
  have B1 : (k == 1) = false := by simpa using hk
  clear hk
  go_enter Tryd.func10, Tryd.ntmps10
  go_wp2_with fail
  refine (H0.out _).mono ?_
  rintro en w1 ⟨rfl, hb⟩
  have Hw1 := Lib.hid hb
  have HPW := Lib.hid (pow_below HW.out hb)
  clear hb
  go_wp2_with fail
  refine (HI.out _ HPW.out).mono ?_
  rintro en w2 ⟨rfl, hb⟩
  have Hw2 := Lib.hid (below_tr Hw1.out hb)
  clear hb Hw1 HPW
  go_wp2_with fail
  refine (H1.out _).mono ?_
  rintro en w3 ⟨rfl, hb⟩
  have Hw3 := Lib.hid (below_tr Hw2.out hb)
  clear hb Hw2
  go_wp2_with fail
  refine (H2.out _).mono ?_
  rintro en w4 ⟨rfl, hb⟩
  have Hw4 := Lib.hid (below_tr Hw3.out hb)
  clear hb Hw3
  go_wp2_with fail
  refine (H3.out _).mono ?_
  rintro en w5 ⟨rfl, hb⟩
  have Hw5 := Lib.hid (below_tr Hw4.out hb)
  clear hb Hw4
  go_wp2
  go_ret
  exact ⟨rfl, Hw5.out⟩

set_option maxHeartbeats 2000000 in
theorem zeros_rpmn (x : Int) (r o D : ByteArray) (hx0 : -9223372036854775808 ≤ x) (hx : x < 0) (hr : r.size ≤ 140737488351232) (hD : D.size ≤ 21) (w : World) (hw : Pow w) (hI : ∀ w, Pow w → Calls Tryd.prog 18 #[.int .i64 (-((x + 1).tmod 100000))] w fun e w' => e = .returned (.string D) ∧ Below w.heap.size w w')
    (a d h : Int) (h1 : Cmp 1 (D ++ (⟨#[46]⟩ : ByteArray) ++ r) o a 0) (h2 : Cmp 1 ((⟨#[48]⟩ : ByteArray) ++ (D ++ (⟨#[46]⟩ : ByteArray) ++ r)) o a 0) (h3 : Cmp 1 ((⟨#[48, 48, 48]⟩ : ByteArray) ++ (D ++ (⟨#[46]⟩ : ByteArray) ++ r)) o a 0) (h4 : Cmp 1 ((⟨#[46]⟩ : ByteArray) ++ (D ++ (⟨#[46]⟩ : ByteArray) ++ r)) o d h) (hd : h = 0 → d = a) :
    Calls Tryd.prog 10 #[.int .i64 1, .int .i64 x, .string r, .string o] w fun en w' => en = .returned (.bool true) ∧ Below w.heap.size w w' := by
  have H0 := Lib.hid awake_c
  have HW := Lib.hid hw
  have HI := Lib.hid hI
  have H1 := Lib.hid h1
  have H2 := Lib.hid h2
  have H3 := Lib.hid h3
  clear hw hI h1 h2 h3
  have z1 : ¬ D.size + (⟨#[46]⟩ : ByteArray).size > 9223372036854775807 := by have : (⟨#[46]⟩ : ByteArray).size = 1 := rfl; omega
  have z2 : ¬ (D ++ (⟨#[46]⟩ : ByteArray)).size + r.size > 9223372036854775807 := by rw [size_app]; have : (⟨#[46]⟩ : ByteArray).size = 1 := rfl; omega
  have z3 : ¬ (⟨#[48]⟩ : ByteArray).size + (D ++ (⟨#[46]⟩ : ByteArray) ++ r).size > 9223372036854775807 := by rw [size_app, size_app]; have : (⟨#[46]⟩ : ByteArray).size = 1 := rfl; have : (⟨#[48]⟩ : ByteArray).size = 1 := rfl; omega
  have z4 : ¬ (⟨#[48, 48, 48]⟩ : ByteArray).size + (D ++ (⟨#[46]⟩ : ByteArray) ++ r).size > 9223372036854775807 := by rw [size_app, size_app]; have : (⟨#[46]⟩ : ByteArray).size = 1 := rfl; have : (⟨#[48, 48, 48]⟩ : ByteArray).size = 3 := rfl; omega
  have z5 : ¬ (⟨#[46]⟩ : ByteArray).size + (D ++ (⟨#[46]⟩ : ByteArray) ++ r).size > 9223372036854775807 := by rw [size_app, size_app]; have : (⟨#[46]⟩ : ByteArray).size = 1 := rfl; omega
  have H4 := Lib.hid h4
  clear h4
  by_cases hh : h = 0
  · obtain rfl := hd hh
    subst hh
    go_enter Tryd.func10, Tryd.ntmps10
    go_wp2_with fail
    refine (H0.out _).mono ?_
    rintro en w1 ⟨rfl, hb⟩
    have Hw1 := Lib.hid hb
    have HPW := Lib.hid (pow_below HW.out hb)
    clear hb
    go_wp2_with fail
    refine (HI.out _ HPW.out).mono ?_
    rintro en w2 ⟨rfl, hb⟩
    have Hw2 := Lib.hid (below_tr Hw1.out hb)
    clear hb Hw1 HPW
    go_wp2_with fail
    refine (H1.out _).mono ?_
    rintro en w3 ⟨rfl, hb⟩
    have Hw3 := Lib.hid (below_tr Hw2.out hb)
    clear hb Hw2
    go_wp2_with fail
    refine (H2.out _).mono ?_
    rintro en w4 ⟨rfl, hb⟩
    have Hw4 := Lib.hid (below_tr Hw3.out hb)
    clear hb Hw3
    go_wp2_with fail
    refine (H3.out _).mono ?_
    rintro en w5 ⟨rfl, hb⟩
    have Hw5 := Lib.hid (below_tr Hw4.out hb)
    clear hb Hw4
    go_wp2_with fail
    refine (H4.out _).mono ?_
    rintro en w6 ⟨rfl, hb⟩
    have Hw6 := Lib.hid (below_tr Hw5.out hb)
    clear hb Hw5
    go_wp2
    go_ret
    exact ⟨rfl, Hw6.out⟩
  · have B1 : (h == 0) = false := by simpa using hh
    clear hh hd
    go_enter Tryd.func10, Tryd.ntmps10
    go_wp2_with fail
    refine (H0.out _).mono ?_
    rintro en w1 ⟨rfl, hb⟩
    have Hw1 := Lib.hid hb
    have HPW := Lib.hid (pow_below HW.out hb)
    clear hb
    go_wp2_with fail
    refine (HI.out _ HPW.out).mono ?_
    rintro en w2 ⟨rfl, hb⟩
    have Hw2 := Lib.hid (below_tr Hw1.out hb)
    clear hb Hw1 HPW
    go_wp2_with fail
    refine (H1.out _).mono ?_
    rintro en w3 ⟨rfl, hb⟩
    have Hw3 := Lib.hid (below_tr Hw2.out hb)
    clear hb Hw2
    go_wp2_with fail
    refine (H2.out _).mono ?_
    rintro en w4 ⟨rfl, hb⟩
    have Hw4 := Lib.hid (below_tr Hw3.out hb)
    clear hb Hw3
    go_wp2_with fail
    refine (H3.out _).mono ?_
    rintro en w5 ⟨rfl, hb⟩
    have Hw5 := Lib.hid (below_tr Hw4.out hb)
    clear hb Hw4
    go_wp2_with fail
    refine (H4.out _).mono ?_
    rintro en w6 ⟨rfl, hb⟩
    have Hw6 := Lib.hid (below_tr Hw5.out hb)
    clear hb Hw5
    go_wp2
    go_ret
    exact ⟨rfl, Hw6.out⟩

set_option maxHeartbeats 2000000 in
theorem zeros_errp (k x : Int) (r o D : ByteArray) (hx0 : x ≤ 9223372036854775807) (hx : 0 ≤ x) (hr : r.size ≤ 140737488351232) (hD : D.size ≤ 21) (w : World) (hw : Pow w) (hI : ∀ w, Pow w → Calls Tryd.prog 18 #[.int .i64 (x % 100000)] w fun e w' => e = .returned (.string D) ∧ Below w.heap.size w w')
    (a b c e f g : Int) (h1 : Cmp k (D ++ (⟨#[46]⟩ : ByteArray) ++ r) o a e) (h2 : Cmp k ((⟨#[48]⟩ : ByteArray) ++ (D ++ (⟨#[46]⟩ : ByteArray) ++ r)) o b f) (h3 : Cmp k ((⟨#[48, 48, 48]⟩ : ByteArray) ++ (D ++ (⟨#[46]⟩ : ByteArray) ++ r)) o c g) (h : e ≠ 0 ∨ f ≠ 0 ∨ g ≠ 0) :
    Calls Tryd.prog 10 #[.int .i64 k, .int .i64 x, .string r, .string o] w fun en w' => en = .returned (.bool true) ∧ Below w.heap.size w w' := by
  have H0 := Lib.hid awake_c
  have HW := Lib.hid hw
  have HI := Lib.hid hI
  have H1 := Lib.hid h1
  have H2 := Lib.hid h2
  have H3 := Lib.hid h3
  clear hw hI h1 h2 h3
  have hxn : ¬ x < 0 := by omega
  have z1 : ¬ D.size + (⟨#[46]⟩ : ByteArray).size > 9223372036854775807 := by have : (⟨#[46]⟩ : ByteArray).size = 1 := rfl; omega
  have z2 : ¬ (D ++ (⟨#[46]⟩ : ByteArray)).size + r.size > 9223372036854775807 := by rw [size_app]; have : (⟨#[46]⟩ : ByteArray).size = 1 := rfl; omega
  have z3 : ¬ (⟨#[48]⟩ : ByteArray).size + (D ++ (⟨#[46]⟩ : ByteArray) ++ r).size > 9223372036854775807 := by rw [size_app, size_app]; have : (⟨#[46]⟩ : ByteArray).size = 1 := rfl; have : (⟨#[48]⟩ : ByteArray).size = 1 := rfl; omega
  have z4 : ¬ (⟨#[48, 48, 48]⟩ : ByteArray).size + (D ++ (⟨#[46]⟩ : ByteArray) ++ r).size > 9223372036854775807 := by rw [size_app, size_app]; have : (⟨#[46]⟩ : ByteArray).size = 1 := rfl; have : (⟨#[48, 48, 48]⟩ : ByteArray).size = 3 := rfl; omega
  have z5 : ¬ (⟨#[46]⟩ : ByteArray).size + (D ++ (⟨#[46]⟩ : ByteArray) ++ r).size > 9223372036854775807 := by rw [size_app, size_app]; have : (⟨#[46]⟩ : ByteArray).size = 1 := rfl; omega
  by_cases he : e = 0
  · by_cases hf : f = 0
    · have hg : g ≠ 0 := by
        rcases h with h | h | h
        · exact absurd he h
        · exact absurd hf h
        · exact h
      have B1 : (e != 0) = false := by simpa using he
      have B2 : (f != 0) = false := by simpa using hf
      have B3 : (g != 0) = true := by simpa using hg
      clear he hf hg h
      go_enter Tryd.func10, Tryd.ntmps10
      go_wp2_with fail
      refine (H0.out _).mono ?_
      rintro en w1 ⟨rfl, hb⟩
      have Hw1 := Lib.hid hb
      have HPW := Lib.hid (pow_below HW.out hb)
      clear hb
      go_wp2_with fail
      refine (HI.out _ HPW.out).mono ?_
      rintro en w2 ⟨rfl, hb⟩
      have Hw2 := Lib.hid (below_tr Hw1.out hb)
      clear hb Hw1 HPW
      go_wp2_with fail
      refine (H1.out _).mono ?_
      rintro en w3 ⟨rfl, hb⟩
      have Hw3 := Lib.hid (below_tr Hw2.out hb)
      clear hb Hw2
      go_wp2_with fail
      refine (H2.out _).mono ?_
      rintro en w4 ⟨rfl, hb⟩
      have Hw4 := Lib.hid (below_tr Hw3.out hb)
      clear hb Hw3
      go_wp2_with fail
      refine (H3.out _).mono ?_
      rintro en w5 ⟨rfl, hb⟩
      have Hw5 := Lib.hid (below_tr Hw4.out hb)
      clear hb Hw4
      go_wp2
      go_ret
      exact ⟨rfl, Hw5.out⟩
    · have B1 : (e != 0) = false := by simpa using he
      have B2 : (f != 0) = true := by simpa using hf
      clear he hf h
      go_enter Tryd.func10, Tryd.ntmps10
      go_wp2_with fail
      refine (H0.out _).mono ?_
      rintro en w1 ⟨rfl, hb⟩
      have Hw1 := Lib.hid hb
      have HPW := Lib.hid (pow_below HW.out hb)
      clear hb
      go_wp2_with fail
      refine (HI.out _ HPW.out).mono ?_
      rintro en w2 ⟨rfl, hb⟩
      have Hw2 := Lib.hid (below_tr Hw1.out hb)
      clear hb Hw1 HPW
      go_wp2_with fail
      refine (H1.out _).mono ?_
      rintro en w3 ⟨rfl, hb⟩
      have Hw3 := Lib.hid (below_tr Hw2.out hb)
      clear hb Hw2
      go_wp2_with fail
      refine (H2.out _).mono ?_
      rintro en w4 ⟨rfl, hb⟩
      have Hw4 := Lib.hid (below_tr Hw3.out hb)
      clear hb Hw3
      go_wp2_with fail
      refine (H3.out _).mono ?_
      rintro en w5 ⟨rfl, hb⟩
      have Hw5 := Lib.hid (below_tr Hw4.out hb)
      clear hb Hw4
      go_wp2
      go_ret
      exact ⟨rfl, Hw5.out⟩
  · have B1 : (e != 0) = true := by simpa using he
    clear he h
    go_enter Tryd.func10, Tryd.ntmps10
    go_wp2_with fail
    refine (H0.out _).mono ?_
    rintro en w1 ⟨rfl, hb⟩
    have Hw1 := Lib.hid hb
    have HPW := Lib.hid (pow_below HW.out hb)
    clear hb
    go_wp2_with fail
    refine (HI.out _ HPW.out).mono ?_
    rintro en w2 ⟨rfl, hb⟩
    have Hw2 := Lib.hid (below_tr Hw1.out hb)
    clear hb Hw1 HPW
    go_wp2_with fail
    refine (H1.out _).mono ?_
    rintro en w3 ⟨rfl, hb⟩
    have Hw3 := Lib.hid (below_tr Hw2.out hb)
    clear hb Hw2
    go_wp2_with fail
    refine (H2.out _).mono ?_
    rintro en w4 ⟨rfl, hb⟩
    have Hw4 := Lib.hid (below_tr Hw3.out hb)
    clear hb Hw3
    go_wp2_with fail
    refine (H3.out _).mono ?_
    rintro en w5 ⟨rfl, hb⟩
    have Hw5 := Lib.hid (below_tr Hw4.out hb)
    clear hb Hw4
    go_wp2
    go_ret
    exact ⟨rfl, Hw5.out⟩

set_option maxHeartbeats 2000000 in
theorem zeros_debp (k x : Int) (r o D : ByteArray) (hx0 : x ≤ 9223372036854775807) (hx : 0 ≤ x) (hr : r.size ≤ 140737488351232) (hD : D.size ≤ 21) (w : World) (hw : Pow w) (hI : ∀ w, Pow w → Calls Tryd.prog 18 #[.int .i64 (x % 100000)] w fun e w' => e = .returned (.string D) ∧ Below w.heap.size w w')
    (a : Int) (h1 : Cmp k (D ++ (⟨#[46]⟩ : ByteArray) ++ r) o a 0) (h2 : Cmp k ((⟨#[48]⟩ : ByteArray) ++ (D ++ (⟨#[46]⟩ : ByteArray) ++ r)) o a 0) (h3 : Cmp k ((⟨#[48, 48, 48]⟩ : ByteArray) ++ (D ++ (⟨#[46]⟩ : ByteArray) ++ r)) o a 0) (hk : k ≠ 1) :
    Calls Tryd.prog 10 #[.int .i64 k, .int .i64 x, .string r, .string o] w fun en w' => en = .returned (.bool true) ∧ Below w.heap.size w w' := by
  have H0 := Lib.hid awake_c
  have HW := Lib.hid hw
  have HI := Lib.hid hI
  have H1 := Lib.hid h1
  have H2 := Lib.hid h2
  have H3 := Lib.hid h3
  clear hw hI h1 h2 h3
  have hxn : ¬ x < 0 := by omega
  have z1 : ¬ D.size + (⟨#[46]⟩ : ByteArray).size > 9223372036854775807 := by have : (⟨#[46]⟩ : ByteArray).size = 1 := rfl; omega
  have z2 : ¬ (D ++ (⟨#[46]⟩ : ByteArray)).size + r.size > 9223372036854775807 := by rw [size_app]; have : (⟨#[46]⟩ : ByteArray).size = 1 := rfl; omega
  have z3 : ¬ (⟨#[48]⟩ : ByteArray).size + (D ++ (⟨#[46]⟩ : ByteArray) ++ r).size > 9223372036854775807 := by rw [size_app, size_app]; have : (⟨#[46]⟩ : ByteArray).size = 1 := rfl; have : (⟨#[48]⟩ : ByteArray).size = 1 := rfl; omega
  have z4 : ¬ (⟨#[48, 48, 48]⟩ : ByteArray).size + (D ++ (⟨#[46]⟩ : ByteArray) ++ r).size > 9223372036854775807 := by rw [size_app, size_app]; have : (⟨#[46]⟩ : ByteArray).size = 1 := rfl; have : (⟨#[48, 48, 48]⟩ : ByteArray).size = 3 := rfl; omega
  have z5 : ¬ (⟨#[46]⟩ : ByteArray).size + (D ++ (⟨#[46]⟩ : ByteArray) ++ r).size > 9223372036854775807 := by rw [size_app, size_app]; have : (⟨#[46]⟩ : ByteArray).size = 1 := rfl; omega
  have B1 : (k == 1) = false := by simpa using hk
  clear hk
  go_enter Tryd.func10, Tryd.ntmps10
  go_wp2_with fail
  refine (H0.out _).mono ?_
  rintro en w1 ⟨rfl, hb⟩
  have Hw1 := Lib.hid hb
  have HPW := Lib.hid (pow_below HW.out hb)
  clear hb
  go_wp2_with fail
  refine (HI.out _ HPW.out).mono ?_
  rintro en w2 ⟨rfl, hb⟩
  have Hw2 := Lib.hid (below_tr Hw1.out hb)
  clear hb Hw1 HPW
  go_wp2_with fail
  refine (H1.out _).mono ?_
  rintro en w3 ⟨rfl, hb⟩
  have Hw3 := Lib.hid (below_tr Hw2.out hb)
  clear hb Hw2
  go_wp2_with fail
  refine (H2.out _).mono ?_
  rintro en w4 ⟨rfl, hb⟩
  have Hw4 := Lib.hid (below_tr Hw3.out hb)
  clear hb Hw3
  go_wp2_with fail
  refine (H3.out _).mono ?_
  rintro en w5 ⟨rfl, hb⟩
  have Hw5 := Lib.hid (below_tr Hw4.out hb)
  clear hb Hw4
  go_wp2
  go_ret
  exact ⟨rfl, Hw5.out⟩

set_option maxHeartbeats 2000000 in
theorem zeros_rpmp (x : Int) (r o D : ByteArray) (hx0 : x ≤ 9223372036854775807) (hx : 0 ≤ x) (hr : r.size ≤ 140737488351232) (hD : D.size ≤ 21) (w : World) (hw : Pow w) (hI : ∀ w, Pow w → Calls Tryd.prog 18 #[.int .i64 (x % 100000)] w fun e w' => e = .returned (.string D) ∧ Below w.heap.size w w')
    (a d h : Int) (h1 : Cmp 1 (D ++ (⟨#[46]⟩ : ByteArray) ++ r) o a 0) (h2 : Cmp 1 ((⟨#[48]⟩ : ByteArray) ++ (D ++ (⟨#[46]⟩ : ByteArray) ++ r)) o a 0) (h3 : Cmp 1 ((⟨#[48, 48, 48]⟩ : ByteArray) ++ (D ++ (⟨#[46]⟩ : ByteArray) ++ r)) o a 0) (h4 : Cmp 1 ((⟨#[46]⟩ : ByteArray) ++ (D ++ (⟨#[46]⟩ : ByteArray) ++ r)) o d h) (hd : h = 0 → d = a) :
    Calls Tryd.prog 10 #[.int .i64 1, .int .i64 x, .string r, .string o] w fun en w' => en = .returned (.bool true) ∧ Below w.heap.size w w' := by
  have H0 := Lib.hid awake_c
  have HW := Lib.hid hw
  have HI := Lib.hid hI
  have H1 := Lib.hid h1
  have H2 := Lib.hid h2
  have H3 := Lib.hid h3
  clear hw hI h1 h2 h3
  have hxn : ¬ x < 0 := by omega
  have z1 : ¬ D.size + (⟨#[46]⟩ : ByteArray).size > 9223372036854775807 := by have : (⟨#[46]⟩ : ByteArray).size = 1 := rfl; omega
  have z2 : ¬ (D ++ (⟨#[46]⟩ : ByteArray)).size + r.size > 9223372036854775807 := by rw [size_app]; have : (⟨#[46]⟩ : ByteArray).size = 1 := rfl; omega
  have z3 : ¬ (⟨#[48]⟩ : ByteArray).size + (D ++ (⟨#[46]⟩ : ByteArray) ++ r).size > 9223372036854775807 := by rw [size_app, size_app]; have : (⟨#[46]⟩ : ByteArray).size = 1 := rfl; have : (⟨#[48]⟩ : ByteArray).size = 1 := rfl; omega
  have z4 : ¬ (⟨#[48, 48, 48]⟩ : ByteArray).size + (D ++ (⟨#[46]⟩ : ByteArray) ++ r).size > 9223372036854775807 := by rw [size_app, size_app]; have : (⟨#[46]⟩ : ByteArray).size = 1 := rfl; have : (⟨#[48, 48, 48]⟩ : ByteArray).size = 3 := rfl; omega
  have z5 : ¬ (⟨#[46]⟩ : ByteArray).size + (D ++ (⟨#[46]⟩ : ByteArray) ++ r).size > 9223372036854775807 := by rw [size_app, size_app]; have : (⟨#[46]⟩ : ByteArray).size = 1 := rfl; omega
  have H4 := Lib.hid h4
  clear h4
  by_cases hh : h = 0
  · obtain rfl := hd hh
    subst hh
    go_enter Tryd.func10, Tryd.ntmps10
    go_wp2_with fail
    refine (H0.out _).mono ?_
    rintro en w1 ⟨rfl, hb⟩
    have Hw1 := Lib.hid hb
    have HPW := Lib.hid (pow_below HW.out hb)
    clear hb
    go_wp2_with fail
    refine (HI.out _ HPW.out).mono ?_
    rintro en w2 ⟨rfl, hb⟩
    have Hw2 := Lib.hid (below_tr Hw1.out hb)
    clear hb Hw1 HPW
    go_wp2_with fail
    refine (H1.out _).mono ?_
    rintro en w3 ⟨rfl, hb⟩
    have Hw3 := Lib.hid (below_tr Hw2.out hb)
    clear hb Hw2
    go_wp2_with fail
    refine (H2.out _).mono ?_
    rintro en w4 ⟨rfl, hb⟩
    have Hw4 := Lib.hid (below_tr Hw3.out hb)
    clear hb Hw3
    go_wp2_with fail
    refine (H3.out _).mono ?_
    rintro en w5 ⟨rfl, hb⟩
    have Hw5 := Lib.hid (below_tr Hw4.out hb)
    clear hb Hw4
    go_wp2_with fail
    refine (H4.out _).mono ?_
    rintro en w6 ⟨rfl, hb⟩
    have Hw6 := Lib.hid (below_tr Hw5.out hb)
    clear hb Hw5
    go_wp2
    go_ret
    exact ⟨rfl, Hw6.out⟩
  · have B1 : (h == 0) = false := by simpa using hh
    clear hh hd
    go_enter Tryd.func10, Tryd.ntmps10
    go_wp2_with fail
    refine (H0.out _).mono ?_
    rintro en w1 ⟨rfl, hb⟩
    have Hw1 := Lib.hid hb
    have HPW := Lib.hid (pow_below HW.out hb)
    clear hb
    go_wp2_with fail
    refine (HI.out _ HPW.out).mono ?_
    rintro en w2 ⟨rfl, hb⟩
    have Hw2 := Lib.hid (below_tr Hw1.out hb)
    clear hb Hw1 HPW
    go_wp2_with fail
    refine (H1.out _).mono ?_
    rintro en w3 ⟨rfl, hb⟩
    have Hw3 := Lib.hid (below_tr Hw2.out hb)
    clear hb Hw2
    go_wp2_with fail
    refine (H2.out _).mono ?_
    rintro en w4 ⟨rfl, hb⟩
    have Hw4 := Lib.hid (below_tr Hw3.out hb)
    clear hb Hw3
    go_wp2_with fail
    refine (H3.out _).mono ?_
    rintro en w5 ⟨rfl, hb⟩
    have Hw5 := Lib.hid (below_tr Hw4.out hb)
    clear hb Hw4
    go_wp2_with fail
    refine (H4.out _).mono ?_
    rintro en w6 ⟨rfl, hb⟩
    have Hw6 := Lib.hid (below_tr Hw5.out hb)
    clear hb Hw5
    go_wp2
    go_ret
    exact ⟨rfl, Hw6.out⟩

theorem zeros_walk (k x : Int) (r o : ByteArray) (hx : (Lit.int .i64 x).wf = true) (hr : r.size ≤ 140737488351232) (ho : o.size ≤ maxLen) (w : World) (hw : Pow w) :
    Calls Tryd.prog 10 #[.int .i64 k, .int .i64 x, .string r, .string o] w fun en w' => en = .returned (.bool true) ∧ Below w.heap.size w w' := by
  obtain ⟨hx0, hx1⟩ := bounds_i64 hx
  have main : ∀ D : ByteArray, (∃ d l, bs D = d :: l ∧ ∀ c ∈ d :: l, dig c = true) → D.size ≤ 21 →
      (∀ a b c e f g, Cmp k (D ++ (⟨#[46]⟩ : ByteArray) ++ r) o a e → Cmp k ((⟨#[48]⟩ : ByteArray) ++ (D ++ (⟨#[46]⟩ : ByteArray) ++ r)) o b f → Cmp k ((⟨#[48, 48, 48]⟩ : ByteArray) ++ (D ++ (⟨#[46]⟩ : ByteArray) ++ r)) o c g → (e ≠ 0 ∨ f ≠ 0 ∨ g ≠ 0) → Calls Tryd.prog 10 #[.int .i64 k, .int .i64 x, .string r, .string o] w fun en w' => en = .returned (.bool true) ∧ Below w.heap.size w w') →
      (∀ a, Cmp k (D ++ (⟨#[46]⟩ : ByteArray) ++ r) o a 0 → Cmp k ((⟨#[48]⟩ : ByteArray) ++ (D ++ (⟨#[46]⟩ : ByteArray) ++ r)) o a 0 → Cmp k ((⟨#[48, 48, 48]⟩ : ByteArray) ++ (D ++ (⟨#[46]⟩ : ByteArray) ++ r)) o a 0 → k ≠ 1 → Calls Tryd.prog 10 #[.int .i64 k, .int .i64 x, .string r, .string o] w fun en w' => en = .returned (.bool true) ∧ Below w.heap.size w w') →
      (∀ a d h, k = 1 → Cmp k (D ++ (⟨#[46]⟩ : ByteArray) ++ r) o a 0 → Cmp k ((⟨#[48]⟩ : ByteArray) ++ (D ++ (⟨#[46]⟩ : ByteArray) ++ r)) o a 0 → Cmp k ((⟨#[48, 48, 48]⟩ : ByteArray) ++ (D ++ (⟨#[46]⟩ : ByteArray) ++ r)) o a 0 → Cmp k ((⟨#[46]⟩ : ByteArray) ++ (D ++ (⟨#[46]⟩ : ByteArray) ++ r)) o d h → (h = 0 → d = a) → Calls Tryd.prog 10 #[.int .i64 k, .int .i64 x, .string r, .string o] w fun en w' => en = .returned (.bool true) ∧ Below w.heap.size w w') →
      Calls Tryd.prog 10 #[.int .i64 k, .int .i64 x, .string r, .string o] w fun en w' => en = .returned (.bool true) ∧ Below w.heap.size w w' := by
    intro D hD hDs p1 p2 p3
    obtain ⟨d, l, hd, hdig⟩ := hD
    have hS : bs (D ++ (⟨#[46]⟩ : ByteArray) ++ r) = (d :: l) ++ 46 :: bs r := by
      rw [bs_app, bs_app, hd]
      simp [bs]
    have sz : (D ++ (⟨#[46]⟩ : ByteArray) ++ r).size ≤ 140737488351300 := by rw [size_app, size_app]; have : (⟨#[46]⟩ : ByteArray).size = 1 := rfl; omega
    generalize (D ++ (⟨#[46]⟩ : ByteArray) ++ r) = s at *
    have m : ∀ p : ByteArray, p.size ≤ 3 → (p ++ s).size ≤ maxLen := fun p hp => by rw [size_app]; unfold maxLen; omega
    have c1 := Cmp.of (k := k) (a := s) (by unfold maxLen; omega) ho
    have c2 := Cmp.of (k := k) (a := (⟨#[48]⟩ : ByteArray) ++ s) (m _ (by decide)) ho
    have c3 := Cmp.of (k := k) (a := (⟨#[48, 48, 48]⟩ : ByteArray) ++ s) (m _ (by decide)) ho
    have c4 := Cmp.of (k := k) (a := (⟨#[46]⟩ : ByteArray) ++ s) (m _ (by decide)) ho
    rw [bs_app, hS, show bs (⟨#[48]⟩ : ByteArray) = [48] from rfl] at c2
    rw [bs_app, hS, show bs (⟨#[48, 48, 48]⟩ : ByteArray) = [48, 48, 48] from rfl] at c3
    rw [bs_app, hS, show bs (⟨#[46]⟩ : ByteArray) = [46] from rfl] at c4
    rw [hS] at c1
    by_cases h : (compareE k ((d :: l) ++ 46 :: bs r) (bs o)).2 ≠ 0 ∨ (compareE k ([48] ++ ((d :: l) ++ 46 :: bs r)) (bs o)).2 ≠ 0 ∨ (compareE k ([48, 48, 48] ++ ((d :: l) ++ 46 :: bs r)) (bs o)).2 ≠ 0
    · exact p1 _ _ _ _ _ _ c1 c2 c3 h
    · simp only [ne_eq, not_or, Decidable.not_not] at h
      obtain ⟨e1, e2, e3⟩ := h
      obtain ⟨l1, l2, l3⟩ := zeros_law hdig e1
      rw [l1 e2] at c2
      rw [l2 e3] at c3
      by_cases hk : k = 1
      · have l4 := l3 hk
        rw [e1] at c1 c2 c3
        exact p3 _ _ _ hk c1 c2 c3 c4 fun h => by rw [l4 h]
      · rw [e1] at c1 c2 c3
        exact p2 _ c1 c2 c3 hk
  by_cases hneg : x < 0
  · obtain ⟨n0, n1⟩ := tmod_neg' x hneg
    obtain ⟨D, hD, hDs, hI⟩ := itoa_str (-((x + 1).tmod 100000)) n0 n1
    refine main D hD hDs (fun a b c e f g c1 c2 c3 h => zeros_errn k x r o D hx0 hneg hr hDs w hw hI a b c e f g c1 c2 c3 h) (fun a c1 c2 c3 hk => zeros_debn k x r o D hx0 hneg hr hDs w hw hI a c1 c2 c3 hk) fun a d h hk c1 c2 c3 c4 hd => ?_
    subst hk
    exact zeros_rpmn x r o D hx0 hneg hr hDs w hw hI a d h c1 c2 c3 c4 hd
  · obtain ⟨D, hD, hDs, hI⟩ := itoa_str (x % 100000) (by omega) (by omega)
    refine main D hD hDs (fun a b c e f g c1 c2 c3 h => zeros_errp k x r o D hx1 (by omega) hr hDs w hw hI a b c e f g c1 c2 c3 h) (fun a c1 c2 c3 hk => zeros_debp k x r o D hx1 (by omega) hr hDs w hw hI a c1 c2 c3 hk) fun a d h hk c1 c2 c3 c4 hd => ?_
    subst hk
    exact zeros_rpmp x r o D hx1 (by omega) hr hDs w hw hI a d h c1 c2 c3 c4 hd
end Go.Proofs.YtgggbjkgpjcklaaDoor
