/-
  The walk of EvrOrder: it answers true. Helper text (printed by gen_order.py); the conditions are those typed.
-/
import Derived.Test.YtgggbjkgpjcklaaDoorAwake
namespace Go.Proofs.YtgggbjkgpjcklaaDoor
set_option linter.unusedVariables false
set_option linter.unusedSimpArgs false
open Go.RowKit

/-- A call of Compare with its answer. -/
def Cmp (k : Int) (a b : ByteArray) (c e : Int) : Prop := ∀ w, Calls Tryd.prog 14 #[.int .i64 k, .string a, .string b] w fun en w' => en = .returned (.tuple #[.int .i64 c, .int .i64 e]) ∧ Below w.heap.size w w'
theorem Cmp.of {k : Int} {a b : ByteArray} (ha : a.size ≤ maxLen) (hb : b.size ≤ maxLen) : Cmp k a b (compareE k (bs a) (bs b)).1 (compareE k (bs a) (bs b)).2 := fun w => evrCompare_c k a b ha hb w

theorem order_err (k : Int) (a b c : ByteArray) (ab e bc f ac g : Int) (h1 : Cmp k a b ab e) (h2 : Cmp k b c bc f) (h3 : Cmp k a c ac g) (h : e ≠ 0 ∨ f ≠ 0 ∨ g ≠ 0) (w : World) :
    Calls Tryd.prog 7 #[.int .i64 k, .string a, .string b, .string c] w fun en w' => en = .returned (.bool true) ∧ Below w.heap.size w w' := by
  have H0 := Lib.hid awake_c
  have H1 := Lib.hid h1
  have H2 := Lib.hid h2
  have H3 := Lib.hid h3
  clear h1 h2 h3
  by_cases he : e = 0
  · by_cases hf : f = 0
    · have hg : g ≠ 0 := by
        rcases h with h | h | h
        · exact absurd he h
        · exact absurd hf h
        · exact h
      have B1 : (e != 0) = false := by simpa using he
      have B2 : (f != 0) = false := by simpa using hf
      have B3 : (g != 0) = true := by simpa using hg
      clear he hf hg h
      go_enter Tryd.func7, Tryd.ntmps7
      go_wp2_with fail
      refine (H0.out _).mono ?_
      rintro e w1 ⟨rfl, hb⟩
      have HB1 := Lib.hid hb
      clear hb
      go_wp2_with fail
      refine (H1.out _).mono ?_
      rintro e w2 ⟨rfl, hb⟩
      have HB2 := Lib.hid (below_tr HB1.out hb)
      clear hb HB1
      go_wp2_with fail
      refine (H2.out _).mono ?_
      rintro e w3 ⟨rfl, hb⟩
      have HB3 := Lib.hid (below_tr HB2.out hb)
      clear hb HB2
      go_wp2_with fail
      refine (H3.out _).mono ?_
      rintro e w4 ⟨rfl, hb⟩
      have HB4 := Lib.hid (below_tr HB3.out hb)
      clear hb HB3
      go_wp2
      go_ret
      exact ⟨rfl, HB4.out⟩
    · have B1 : (e != 0) = false := by simpa using he
      have B2 : (f != 0) = true := by simpa using hf
      clear he hf h
      go_enter Tryd.func7, Tryd.ntmps7
      go_wp2_with fail
      refine (H0.out _).mono ?_
      rintro e w1 ⟨rfl, hb⟩
      have HB1 := Lib.hid hb
      clear hb
      go_wp2_with fail
      refine (H1.out _).mono ?_
      rintro e w2 ⟨rfl, hb⟩
      have HB2 := Lib.hid (below_tr HB1.out hb)
      clear hb HB1
      go_wp2_with fail
      refine (H2.out _).mono ?_
      rintro e w3 ⟨rfl, hb⟩
      have HB3 := Lib.hid (below_tr HB2.out hb)
      clear hb HB2
      go_wp2_with fail
      refine (H3.out _).mono ?_
      rintro e w4 ⟨rfl, hb⟩
      have HB4 := Lib.hid (below_tr HB3.out hb)
      clear hb HB3
      go_wp2
      go_ret
      exact ⟨rfl, HB4.out⟩
  · have B1 : (e != 0) = true := by simpa using he
    clear he h
    go_enter Tryd.func7, Tryd.ntmps7
    go_wp2_with fail
    refine (H0.out _).mono ?_
    rintro e w1 ⟨rfl, hb⟩
    have HB1 := Lib.hid hb
    clear hb
    go_wp2_with fail
    refine (H1.out _).mono ?_
    rintro e w2 ⟨rfl, hb⟩
    have HB2 := Lib.hid (below_tr HB1.out hb)
    clear hb HB1
    go_wp2_with fail
    refine (H2.out _).mono ?_
    rintro e w3 ⟨rfl, hb⟩
    have HB3 := Lib.hid (below_tr HB2.out hb)
    clear hb HB2
    go_wp2_with fail
    refine (H3.out _).mono ?_
    rintro e w4 ⟨rfl, hb⟩
    have HB4 := Lib.hid (below_tr HB3.out hb)
    clear hb HB3
    go_wp2
    go_ret
    exact ⟨rfl, HB4.out⟩

set_option maxHeartbeats 4000000 in
theorem order_ok (k : Int) (a b c : ByteArray) (ab bc ac ba x : Int) (h1 : Cmp k a b ab 0) (h2 : Cmp k b c bc 0) (h3 : Cmp k a c ac 0) (h4 : Cmp k a a 0 x) (h5 : Cmp k b a ba 0)
    (t1 : ab = -1 ∨ ab = 0 ∨ ab = 1) (t2 : bc = -1 ∨ bc = 0 ∨ bc = 1) (t3 : ac = -1 ∨ ac = 0 ∨ ac = 1) (a1 : ba = -ab) (r1 : ab ≤ 0 → bc ≤ 0 → ac ≤ 0) (r2 : 0 ≤ ab → 0 ≤ bc → 0 ≤ ac) (r3 : ab = 0 → ac = bc) (r4 : bc = 0 → ac = ab) (w : World) :
    Calls Tryd.prog 7 #[.int .i64 k, .string a, .string b, .string c] w fun en w' => en = .returned (.bool true) ∧ Below w.heap.size w w' := by
  have H0 := Lib.hid awake_c
  have H1 := Lib.hid h1
  have H2 := Lib.hid h2
  have H3 := Lib.hid h3
  have H4 := Lib.hid h4
  have H5 := Lib.hid h5
  clear h1 h2 h3 h4 h5
  have t5 : ba = -1 ∨ ba = 0 ∨ ba = 1 := by omega
  rcases t1 with rfl | rfl | rfl <;> rcases t2 with rfl | rfl | rfl <;> rcases t3 with rfl | rfl | rfl <;> rcases t5 with rfl | rfl | rfl
  all_goals try (exfalso; omega)
  all_goals
    clear a1 r1 r2 r3 r4
    go_enter Tryd.func7, Tryd.ntmps7
    go_wp2_with fail
    refine (H0.out _).mono ?_
    rintro e w1 ⟨rfl, hb⟩
    have HB1 := Lib.hid hb
    clear hb
    go_wp2_with fail
    refine (H1.out _).mono ?_
    rintro e w2 ⟨rfl, hb⟩
    have HB2 := Lib.hid (below_tr HB1.out hb)
    clear hb HB1
    go_wp2_with fail
    refine (H2.out _).mono ?_
    rintro e w3 ⟨rfl, hb⟩
    have HB3 := Lib.hid (below_tr HB2.out hb)
    clear hb HB2
    go_wp2_with fail
    refine (H3.out _).mono ?_
    rintro e w4 ⟨rfl, hb⟩
    have HB4 := Lib.hid (below_tr HB3.out hb)
    clear hb HB3
    go_wp2_with fail
    refine (H4.out _).mono ?_
    rintro e w5 ⟨rfl, hb⟩
    have HB5 := Lib.hid (below_tr HB4.out hb)
    clear hb HB4
    go_wp2_with fail
    refine (H5.out _).mono ?_
    rintro e w6 ⟨rfl, hb⟩
    have HB6 := Lib.hid (below_tr HB5.out hb)
    clear hb HB5
    go_wp2
    go_ret
    exact ⟨rfl, HB6.out⟩

theorem compareE_two (k : Int) (a b : List UInt8) : (compareE k a b).2 = 0 ∨ (compareE k a b).2 ≠ 0 ∧ (compareE k a b).1 = 0 := by
  unfold compareE
  split
  · exact .inr ⟨by decide, rfl⟩
  · split
    · exact .inl rfl
    · exact .inr ⟨by decide, rfl⟩
theorem compareE_zero {k : Int} {a b : List UInt8} (h : (compareE k a b).2 = 0) : ∃ x y, parse a = some x ∧ parse b = some y ∧ (k = 1 ∨ k = 2) ∧ compareE k a b = (allC k x y, 0) := by
  by_cases hk : k = 1 ∨ k = 2
  · cases ha : parse a with
    | none => rw [compareE_none hk (.inl ha)] at h; cases h
    | some x =>
      cases hb : parse b with
      | none => rw [compareE_none hk (.inr hb)] at h; cases h
      | some y => exact ⟨x, y, rfl, rfl, hk, by rw [compareE_ok hk ha hb]; rfl⟩
  · rw [compareE_bad (fun e => hk (.inl e)) (fun e => hk (.inr e))] at h
    cases h

theorem order_walk (k : Int) (a b c : ByteArray) (ha : a.size ≤ maxLen) (hb : b.size ≤ maxLen) (hc : c.size ≤ maxLen) (w : World) :
    Calls Tryd.prog 7 #[.int .i64 k, .string a, .string b, .string c] w fun en w' => en = .returned (.bool true) ∧ Below w.heap.size w w' := by
  have c1 := Cmp.of (k := k) ha hb
  have c2 := Cmp.of (k := k) hb hc
  have c3 := Cmp.of (k := k) ha hc
  by_cases h : (compareE k (bs a) (bs b)).2 ≠ 0 ∨ (compareE k (bs b) (bs c)).2 ≠ 0 ∨ (compareE k (bs a) (bs c)).2 ≠ 0
  · exact order_err k a b c _ _ _ _ _ _ c1 c2 c3 h w
  · simp only [ne_eq, not_or, Decidable.not_not] at h
    obtain ⟨e1, e2, e3⟩ := h
    obtain ⟨x, y, px, py, hk, v1⟩ := compareE_zero e1
    obtain ⟨y', z, py', pz, _, v2⟩ := compareE_zero e2
    obtain ⟨x', z', px', pz', _, v3⟩ := compareE_zero e3
    rw [px] at px'
    rw [py] at py'
    rw [pz] at pz'
    cases px'
    cases py'
    cases pz'
    have v4 : compareE k (bs a) (bs a) = (allC k x x, 0) := by rw [compareE_ok hk px px]; rfl
    have v5 : compareE k (bs b) (bs a) = (allC k y x, 0) := by rw [compareE_ok hk py px]; rfl
    have c4 := Cmp.of (k := k) ha ha
    have c5 := Cmp.of (k := k) hb ha
    rw [v1] at c1
    rw [v2] at c2
    rw [v3] at c3
    rw [v4, (allC_cmp k).refl] at c4
    rw [v5] at c5
    have hc := allC_cmp k
    exact order_ok k a b c _ _ _ _ _ c1 c2 c3 c4 c5 (hc.tri _ _) (hc.tri _ _) (hc.tri _ _) (hc.anti _ _) (hc.trans _ _ _) (hc.ge) (fun e => hc.eqL e _) (fun e => hc.eqR e _) w
end Go.Proofs.YtgggbjkgpjcklaaDoor
