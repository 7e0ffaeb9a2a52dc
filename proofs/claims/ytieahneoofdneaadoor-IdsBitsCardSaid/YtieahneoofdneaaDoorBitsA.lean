/-
  Bits: what is in; Has, Set. Helper text; the conditions are those typed.
-/
import Derived.Test.YtieahneoofdneaaDoorWalkI
import Derived.Test.YtieahneoofdneaaDoorMem
import Derived.Test.YtieahneoofdneaaDoorQuietTail
import Derived.Lib.Zigzag
import Derived.Laws.Bits64
namespace Go.Proofs.YtieahneoofdneaaDoor
set_option linter.unusedVariables false
set_option linter.unusedSimpArgs false
open Go.RowKit Go.Maps

/-- Bits in memory: 1024 words. -/
structure BitsAt (w : World) (b : Nat) (W : Nat → Nat) : Prop where
  box : BoxF w b 1024 (fun j => .int .u64 (W j : Int)) 27
  lt : ∀ j, W j < 18446744073709551616
theorem BitsAt.below {w w' : World} {b : Nat} {W : Nat → Nat} (h : BitsAt w b W) (hb : Below w.heap.size w w') : BitsAt w' b W := ⟨h.box.below hb, h.lt⟩
theorem BitsAt.to {w w' : World} {b : Nat} {W : Nat → Nat} (h : BitsAt w b W) (hb : w'.heap[b]? = w.heap[b]?) : BitsAt w' b W := ⟨h.box.to hb, h.lt⟩
def bitAt (W : Nat → Nat) (k : Nat) : Bool := (W (k / 64)).testBit (k % 64)
def flip1 (W : Nat → Nat) (k : Nat) : Nat → Nat := fun j => if j = k / 64 then W j ^^^ 2 ^ (k % 64) else W j
theorem flip1_at (W : Nat → Nat) (k n : Nat) : bitAt (flip1 W k) n = (bitAt W n ^^ decide (n = k)) := by
  unfold bitAt flip1
  by_cases h : n / 64 = k / 64
  · rw [if_pos h, h, Nat.testBit_xor, Nat.testBit_two_pow]
    by_cases h2 : n = k
    · subst h2; simp
    · have h3 : ¬ k % 64 = n % 64 := by omega
      simp [h2, h3]
  · rw [if_neg h]
    have h2 : ¬ n = k := fun e => h (by rw [e])
    simp [h2]
theorem flip1_lt {W : Nat → Nat} (h : ∀ j, W j < 18446744073709551616) (k : Nat) : ∀ j, flip1 W k j < 18446744073709551616 := fun j => by
  unfold flip1
  split
  · exact Nat.xor_lt_two_pow (n := 64) (h j) (Nat.pow_lt_pow_right (by omega) (by omega))
  · exact h j
theorem and1_bit (x j : Nat) (hx : x < 18446744073709551616) : (bits .and .u64 ((x : Int) / 2 ^ j) 1 == 1) = x.testBit j := by
  have e : (x : Int) / 2 ^ j = ((x / 2 ^ j : Nat) : Int) := by simp
  have hle : x / 2 ^ j ≤ x := Nat.div_le_self _ _
  rw [e, Nat.testBit_eq_decide_div_mod_eq]
  generalize x / 2 ^ j = y at hle ⊢
  rw [Lib.u64_and1 _ (by omega) (by omega)]
  by_cases h : y % 2 = 1
  · have : ((y : Int) % 2) = 1 := by omega
    rw [this, decide_eq_true h]; rfl
  · have : ((y : Int) % 2) = 0 := by omega
    rw [this, decide_eq_false h]; rfl

set_option maxHeartbeats 1000000 in
theorem hasn_c {w : World} {b : Nat} {W : Nat → Nat} (h : BitsAt w b W) (k : Nat) (hk : k < 65536) : Calls Tryd.prog 7 #[.pointer (some ⟨b, 0, none⟩), .int .i64 (k : Int)] w fun e w' => e = .returned (.bool (bitAt W k)) ∧ w' = w := by
  unfold bitAt
  have c0 := h.box.cell (j := k / 64) (by omega)
  have hl := h.lt (k / 64)
  have d1 : (k : Int).tdiv 64 = ((k / 64 : Nat) : Int) := by rw [Int.tdiv_eq_ediv_of_nonneg (by omega)]; omega
  have d2 : (k : Int).tmod 64 = ((k % 64 : Nat) : Int) := by rw [Int.tmod_eq_emod_of_nonneg (by omega)]; omega
  have k1 : (0 : Int) ≤ (k : Int) := by omega
  have k2 : (k : Int) < 65536 := by omega
  have k3 : ((k / 64 : Nat) : Int) < 1024 := by omega
  have k4 : ((k % 64 : Nat) : Int) < 64 := by omega
  have HB := and1_bit (W (k / 64)) (k % 64) hl
  generalize W (k / 64) = x at c0 hl HB ⊢
  generalize k / 64 = i at *
  generalize k % 64 = j at *
  replace HB := Lib.hid HB
  clear h
  go_enter Tryd.func7, Tryd.ntmps7
  go_wp2_with fail
  rw [HB.out]
  go_ret
  exact ⟨rfl, rfl⟩
theorem hasx_c {b : Nat} (n : Int) (hn : n < 0 ∨ 65535 < n) (w : World) : Calls Tryd.prog 7 #[.pointer (some ⟨b, 0, none⟩), .int .i64 n] w fun e w' => e = .returned (.bool false) ∧ w' = w := by
  by_cases h0 : n < 0
  · have h1 : ¬ 0 ≤ n := by omega
    clear hn
    go_enter Tryd.func7, Tryd.ntmps7
    go_wp2_with fail
    go_ret
    exact ⟨rfl, rfl⟩
  · have h1 : 0 ≤ n := by omega
    have h2 : ¬ n < 65536 := by omega
    clear hn
    go_enter Tryd.func7, Tryd.ntmps7
    go_wp2_with fail
    go_ret
    exact ⟨rfl, rfl⟩

set_option maxHeartbeats 2000000 in
set_option maxRecDepth 100000 in
theorem setn_c {w : World} {b : Nat} {W : Nat → Nat} (h : BitsAt w b W) (k : Nat) (hk : k < 65536) (inn : Bool) : Calls Tryd.prog 6 #[.pointer (some ⟨b, 0, none⟩), .int .i64 (k : Int), .bool inn] w fun e w' =>
    e = .returned (.tuple #[.bool (bitAt W k != inn), .int .i64 0]) ∧ BitsAt w' b (if bitAt W k = inn then W else flip1 W k) ∧ w.grownBy w' (some b) := by
  have HH := Lib.hid (hasn_c h k hk)
  have HB := Lib.hid h
  have k1 : ¬ (k : Int) < 0 := by omega
  have k2 : ¬ (65536 ≤ (k : Int)) := by omega
  by_cases hq : bitAt W k = inn
  · have hq' : (bitAt W k != inn) = false := by simp [hq]
    have HF : Hid (BitsAt w b (if bitAt W k = inn then W else flip1 W k) ∧ w.grownBy w (some b)) := ⟨by rw [if_pos hq]; exact h, rfl, rfl, rfl, Nat.le_refl _, fun _ _ _ => rfl⟩
    generalize (if bitAt W k = inn then W else flip1 W k) = W' at HF ⊢
    subst hq
    rw [hq']
    clear h hq'
    generalize bitAt W k = was at HH ⊢
    cases was
    all_goals
      go_enter Tryd.func6, Tryd.ntmps6
      go_wp2_with (go_at_call 7; refine HH.out.mono ?_; rintro e w1 ⟨rfl, rfl⟩)
      refine bodyPost_ret (v := .tuple #[.bool false, .int .i64 0]) (by simp [results, Tryd.results6, go_sem]) rfl ?_
      exact ⟨rfl, HF.out⟩
  · have hq' : (bitAt W k != inn) = true := by simpa using hq
    have c0 := h.box.cell (j := k / 64) (by omega)
    have f0 := h.box.frozen (k / 64)
    have hl := h.lt (k / 64)
    have hp : 2 ^ (k % 64) < 18446744073709551616 := Nat.pow_lt_pow_right (m := k % 64) (n := 64) (a := 2) (by omega) (by omega)
    have HX : Hid (bits .xor .u64 (W (k / 64) : Int) (IntKind.u64.wrap (2 ^ (k % 64))) = ((W (k / 64) ^^^ 2 ^ (k % 64) : Nat) : Int)) := by
      have e : IntKind.u64.wrap (2 ^ (k % 64)) = ((2 ^ (k % 64) : Nat) : Int) := by
        rw [IntKind.wrap_u64, show (2 : Int) ^ (k % 64) = ((2 ^ (k % 64) : Nat) : Int) by simp]
        generalize 2 ^ (k % 64) = y at hp ⊢
        omega
      show _ = _
      rw [e]
      exact bits_xor_u64_nat _ _ hl hp
    have HF : Hid (∀ wd, Hid (wd = w.drew) → BitsAt (wd.setCell ⟨b, k / 64, none⟩ (.int .u64 ((W (k / 64) ^^^ 2 ^ (k % 64) : Nat) : Int))) b (if bitAt W k = inn then W else flip1 W k) ∧ w.grownBy (wd.setCell ⟨b, k / 64, none⟩ (.int .u64 ((W (k / 64) ^^^ 2 ^ (k % 64) : Nat) : Int))) (some b)) := fun wd hwd => by
      rw [if_neg hq]
      have e := hwd.out
      subst e
      have h1 : BoxF w.drew b 1024 (fun j => .int .u64 (W j : Int)) 27 := h.box.to rfl
      refine ⟨⟨(h1.set (k / 64) _).congr fun j _ => ?_, flip1_lt h.lt k⟩, rfl, rfl, rfl, by simp, fun c hc hne => ?_⟩
      · unfold flip1
        split
        · rename_i e; rw [e]
        · rfl
      · rw [set_other _ (fun e => hne (by rw [e]))]
        rfl
    have d1 : (k : Int).tdiv 64 = ((k / 64 : Nat) : Int) := by rw [Int.tdiv_eq_ediv_of_nonneg (by omega)]; omega
    have d2 : (k : Int).tmod 64 = ((k % 64 : Nat) : Int) := by rw [Int.tmod_eq_emod_of_nonneg (by omega)]; omega
    have k3 : ((k / 64 : Nat) : Int) < 1024 := by omega
    have k4 : ((k % 64 : Nat) : Int) < 64 := by omega
    generalize (if bitAt W k = inn then W else flip1 W k) = W' at HF ⊢
    rw [hq']
    have hqn : inn = !bitAt W k := by
      revert hq
      cases bitAt W k <;> cases inn <;> simp
    subst hqn
    clear hq hq'
    generalize bitAt W k = was at HH ⊢
    generalize (W (k / 64) ^^^ 2 ^ (k % 64)) = z at HX HF
    generalize W (k / 64) = x at c0 HX hl
    generalize k / 64 = i at *
    generalize k % 64 = j at *
    clear h HB hl hp
    cases was
    all_goals
     go_enter Tryd.func6, Tryd.ntmps6
     go_upto_region 5 with (go_at_call 7; refine HH.out.mono ?_; rintro e w1 ⟨rfl, rfl⟩)
     refine wp_quiet_tail 15 (by kernel_rfl) (by kernel_rfl) ?_
     intro wd hwd
     have d0 : wd.cell? ⟨b, i, none⟩ = some (.int .u64 (x : Int)) := by rw [hwd.out]; exact c0
     have g0 : wd.frozen? ⟨b, i, none⟩ = false := by rw [hwd.out]; exact f0
     have HFW := Lib.hid (HF.out wd hwd)
     clear c0 f0 hwd HF
     simp only [List.take_succ_cons, List.take_zero, List.drop_succ_cons, List.drop_zero]
     repeat (go_big_quiet_step (fail))
     refine wpQuiet_nil ?_
     have hx := HX.out
     go_wp2_with fail
     refine bodyPost_ret (v := .tuple #[.bool true, .int .i64 0]) (by simp [results, Tryd.results6, go_sem]) rfl ?_
     exact ⟨rfl, HFW.out⟩
theorem setx_c {b : Nat} (n : Int) (hn : n < 0 ∨ 65535 < n) (inn : Bool) (w : World) : Calls Tryd.prog 6 #[.pointer (some ⟨b, 0, none⟩), .int .i64 n, .bool inn] w fun e w' => e = .returned (.tuple #[.bool false, .int .i64 1]) ∧ w' = w := by
  by_cases h0 : n < 0
  · clear hn
    go_enter Tryd.func6, Tryd.ntmps6
    go_wp2_with fail
    exact bodyPost_ret (v := .tuple #[.bool false, .int .i64 1]) (by simp [results, Tryd.results6, go_sem]) rfl ⟨rfl, rfl⟩
  · have h1 : 65536 ≤ n := by omega
    clear hn
    go_enter Tryd.func6, Tryd.ntmps6
    go_wp2_with fail
    exact bodyPost_ret (v := .tuple #[.bool false, .int .i64 1]) (by simp [results, Tryd.results6, go_sem]) rfl ⟨rfl, rfl⟩
end Go.Proofs.YtieahneoofdneaaDoor
