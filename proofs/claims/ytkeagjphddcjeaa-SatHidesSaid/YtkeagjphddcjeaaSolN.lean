/-
  Rows of truth values; Same, Lit, Holds, All. Helper text; the conditions are those typed.
-/
import Derived.Test.YtkeagjphddcjeaaSolI
import Derived.Deep.QuietTactic
import Derived.BigQuiet
import Derived.StillTailTactics
namespace Go.Proofs.Ytkeagjphddcjeaa
set_option linter.unusedVariables false
set_option linter.unusedSimpArgs false
open Go.RowKit Go.Maps Sat

def BoolsAt (w : World) (a : Option Addr) (zs : List Bool) : Prop :=
  zs = [] ∨ ∃ b off, a = some ⟨b, off, none⟩ ∧ b < w.heap.size ∧ ∀ i, i < zs.length → w.cell? ⟨b, off + i, none⟩ = some (.bool (zs.getD i false))
def BoolsV (w : World) (v : Value) (zs : List Bool) : Prop := ∃ a c, v = .slice a zs.length c ∧ zs.length ≤ c ∧ BoolsAt w a zs
theorem BoolsV.below {w w' : World} {v : Value} {zs : List Bool} (h : BoolsV w v zs) (hb : Below w.heap.size w w') : BoolsV w' v zs := by
  obtain ⟨a, c, e, hc, h⟩ := h
  refine ⟨a, c, e, hc, ?_⟩
  rcases h with h | ⟨b, off, rfl, hlt, hcell⟩
  · exact .inl h
  · exact .inr ⟨b, off, rfl, Nat.lt_of_lt_of_le hlt hb.size, fun i hi => cell_tr hb (hcell i hi)⟩
theorem BoolsV.nil (w : World) : BoolsV w (.slice none 0 0) [] := ⟨none, 0, rfl, Nat.le_refl _, .inl rfl⟩
/-- The values of a row. -/
def bsOf (n : Nat) (v : Asg) : List Bool := (List.range n).map v
theorem bsOf_len (n : Nat) (v : Asg) : (bsOf n v).length = n := by unfold bsOf; simp
theorem bsOf_get (n : Nat) (v : Asg) {i : Nat} (h : i < n) : (bsOf n v).getD i false = v i := by
  unfold bsOf
  simp [List.getD, h]
theorem BoolsV.box {w : World} {g n : Nat} {v : Asg} (h : BoxF w g n (fun u => .bool (v u)) 4) : BoolsV w (.slice (some ⟨g, 0, none⟩) n n) (bsOf n v) := by
  refine ⟨_, n, by rw [bsOf_len], by rw [bsOf_len]; exact Nat.le_refl _, .inr ⟨g, 0, rfl, h.lt, fun i hi => ?_⟩⟩
  rw [bsOf_len] at hi
  rw [Nat.zero_add, h.cell hi, bsOf_get n v hi]

set_option maxHeartbeats 2000000 in
theorem sameI_in {w : World} {a b : Option Addr} {xs ys : List Int} (ha : IntsAt w a xs) (hb : IntsAt w b ys) (ca cb : Nat) (hl : xs.length ≤ maxLen) (hl2 : ys.length ≤ maxLen) :
    Calls Try.prog 20 #[.slice a xs.length ca, .slice b ys.length cb] w fun e w' => e = .returned (.bool (decide (xs = ys))) ∧ ∃ n, w' = w.drewN n := by
  unfold maxLen at hl hl2
  obtain ⟨R, hR⟩ : ∃ R : Ending → World → Prop, (fun e w' => e = .returned (.bool (decide (xs = ys))) ∧ ∃ n, w' = w.drewN n) = R := ⟨_, rfl⟩
  rw [hR]
  replace hR := Lib.hid hR
  by_cases hlen : xs.length = ys.length
  · have hlen' : ((xs.length : Int) != (ys.length : Int)) = false := by simp [hlen]
    have HA := Lib.hid ha
    have HB := Lib.hid hb
    have HLEN := Lib.hid hlen
    obtain ⟨X, hX⟩ : ∃ X, xs.length = X := ⟨_, rfl⟩
    obtain ⟨Y, hY⟩ : ∃ Y, ys.length = Y := ⟨_, rfl⟩
    have hXY : X = Y := by omega
    rw [hX] at hl hlen' ⊢
    rw [hY] at hl2 hlen' ⊢
    have HX := Lib.hid hX
    have HY := Lib.hid hY
    have HXY := Lib.hid hXY
    have hYX : (Y : Int) = (X : Int) := by omega
    have HYX := Lib.hid hYX
    clear ha hb hlen hX hY hXY hYX
    go_enter Try.func20, Try.ntmps20
    go_wp2_with fail
    go_loopg [5] X (fun gk v5 wx => ∃ k n : Nat, v5 = .int .i64 (k : Int) ∧ k ≤ X ∧ X ≤ k + gk ∧ wx = w.drewN n ∧ Hid (∀ j, j < k → xs[j]? = ys[j]?))
    case atStart => exact ⟨0, 0, rfl, Nat.zero_le _, by omega, rfl, fun j hj => absurd hj (Nat.not_lt_zero j)⟩
    case round =>
      obtain ⟨k, n, rfl, hk, hgk, rfl, HP⟩ := hrel
      by_cases hkl : k < X
      · have hx : k < xs.length := by rw [HX.out]; exact hkl
        have hy : k < ys.length := by rw [HY.out, ← HXY.out]; exact hkl
        obtain ⟨b1, o1, hae, hc1⟩ : ∃ b off, a = some ⟨b, off, none⟩ ∧ w.cell? ⟨b, off + k, none⟩ = some (.int .i64 xs[k]) := by
          rcases HA.out with h0 | ⟨b, off, e, _, hc⟩
          · rw [h0] at hx; simp at hx
          · exact ⟨b, off, e, by rw [hc k hx]; simp [List.getD, List.getElem?_eq_getElem hx]⟩
        obtain ⟨b2, o2, hbe, hc2⟩ : ∃ b' off, b = some ⟨b', off, none⟩ ∧ w.cell? ⟨b', off + k, none⟩ = some (.int .i64 ys[k]) := by
          rcases HB.out with h0 | ⟨b, off, e, _, hc⟩
          · rw [h0] at hy; simp at hy
          · exact ⟨b, off, e, by rw [hc k hy]; simp [List.getD, List.getElem?_eq_getElem hy]⟩
        subst hae hbe
        have hlt : (k : Int) < (X : Int) := by omega
        have hlt2 : (k : Int) < (Y : Int) := by have := HXY.out; omega
        have HXK : Hid (xs[k]? = some xs[k]) := List.getElem?_eq_getElem hx
        have HYK : Hid (ys[k]? = some ys[k]) := List.getElem?_eq_getElem hy
        obtain ⟨x, hxe⟩ : ∃ x, xs[k] = x := ⟨_, rfl⟩
        obtain ⟨y, hye⟩ : ∃ y, ys[k] = y := ⟨_, rfl⟩
        rw [hxe] at hc1 HXK
        rw [hye] at hc2 HYK
        clear hxe hye hx hy
        by_cases he : x = y
        · have hB : (x != y) = false := by simp [he]
          have HN : Hid (∀ j, j < k + 1 → xs[j]? = ys[j]?) := fun j hj => by
            by_cases hjk : j < k
            · exact HP.out j hjk
            · have : j = k := by omega
              subst this
              rw [HXK.out, HYK.out, he]
          replace he := Lib.hid he
          go_upto_region 6 with fail
          go_quiet (fail)
          go_wp2_with fail
          go_roundg (gk - 1)
          case measure => omega
          case rel => exact ⟨k + 1, n + nq, by go_num, by omega, by omega, by first | rfl | rw [World.drewN_drewN], HN.out⟩
        · have hB : (x != y) = true := by simp [he]
          have HF : Hid (∀ m, R (.returned (.bool false)) (w.drewN m)) := fun m => by
            rw [← hR.out]
            refine ⟨?_, m, rfl⟩
            have : decide (xs = ys) = false := by
              simp only [decide_eq_false_iff_not]
              intro e
              have h1 := HXK.out
              rw [e, HYK.out] at h1
              exact he (Option.some.inj h1).symm
            rw [this]
          replace he := Lib.hid he
          go_upto_region 6 with fail
          go_quiet (fail)
          go_wp2_with fail
          first
            | exact HF.out _
            | (rw [World.drewN_drewN]; exact HF.out _)
      · have hlt : ¬ (k : Int) < (X : Int) := by omega
        have HF : Hid (R (.returned (.bool true)) (w.drewN n)) := by
          rw [← hR.out]
          refine ⟨?_, n, rfl⟩
          have : decide (xs = ys) = true := by
            simp only [decide_eq_true_eq]
            apply List.ext_getElem?
            intro i
            by_cases hi : i < k
            · exact HP.out i hi
            · rw [List.getElem?_eq_none (by rw [HX.out]; omega), List.getElem?_eq_none (by rw [HY.out, ← HXY.out]; omega)]
          rw [this]
        go_wp2_with fail
        exact HF.out
  · have hlen' : ((xs.length : Int) != (ys.length : Int)) = true := by simp; omega
    have hne : decide (xs = ys) = false := by
      simp only [decide_eq_false_iff_not]
      intro e
      exact hlen (by rw [e])
    have HF : Hid (R (.returned (.bool false)) w) := by
      rw [← hR.out]
      exact ⟨by rw [hne], 0, rfl⟩
    clear hne hlen
    go_enter Try.func20, Try.ntmps20
    go_wp2_with fail
    exact HF.out

set_option maxHeartbeats 2000000 in
theorem sameB_in {w : World} {a b : Option Addr} {xs ys : List Bool} (ha : BoolsAt w a xs) (hb : BoolsAt w b ys) (ca cb : Nat) (hl : xs.length ≤ maxLen) (hl2 : ys.length ≤ maxLen) :
    Calls Try.prog 17 #[.slice a xs.length ca, .slice b ys.length cb] w fun e w' => e = .returned (.bool (decide (xs = ys))) ∧ ∃ n, w' = w.drewN n := by
  unfold maxLen at hl hl2
  obtain ⟨R, hR⟩ : ∃ R : Ending → World → Prop, (fun e w' => e = .returned (.bool (decide (xs = ys))) ∧ ∃ n, w' = w.drewN n) = R := ⟨_, rfl⟩
  rw [hR]
  replace hR := Lib.hid hR
  by_cases hlen : xs.length = ys.length
  · have hlen' : ((xs.length : Int) != (ys.length : Int)) = false := by simp [hlen]
    have HA := Lib.hid ha
    have HB := Lib.hid hb
    have HLEN := Lib.hid hlen
    obtain ⟨X, hX⟩ : ∃ X, xs.length = X := ⟨_, rfl⟩
    obtain ⟨Y, hY⟩ : ∃ Y, ys.length = Y := ⟨_, rfl⟩
    have hXY : X = Y := by omega
    rw [hX] at hl hlen' ⊢
    rw [hY] at hl2 hlen' ⊢
    have HX := Lib.hid hX
    have HY := Lib.hid hY
    have HXY := Lib.hid hXY
    have hYX : (Y : Int) = (X : Int) := by omega
    have HYX := Lib.hid hYX
    clear ha hb hlen hX hY hXY hYX
    go_enter Try.func17, Try.ntmps17
    go_wp2_with fail
    go_loopg [5] X (fun gk v5 wx => ∃ k n : Nat, v5 = .int .i64 (k : Int) ∧ k ≤ X ∧ X ≤ k + gk ∧ wx = w.drewN n ∧ Hid (∀ j, j < k → xs[j]? = ys[j]?))
    case atStart => exact ⟨0, 0, rfl, Nat.zero_le _, by omega, rfl, fun j hj => absurd hj (Nat.not_lt_zero j)⟩
    case round =>
      obtain ⟨k, n, rfl, hk, hgk, rfl, HP⟩ := hrel
      by_cases hkl : k < X
      · have hx : k < xs.length := by rw [HX.out]; exact hkl
        have hy : k < ys.length := by rw [HY.out, ← HXY.out]; exact hkl
        obtain ⟨b1, o1, hae, hc1⟩ : ∃ b off, a = some ⟨b, off, none⟩ ∧ w.cell? ⟨b, off + k, none⟩ = some (.bool xs[k]) := by
          rcases HA.out with h0 | ⟨b, off, e, _, hc⟩
          · rw [h0] at hx; simp at hx
          · exact ⟨b, off, e, by rw [hc k hx]; simp [List.getD, List.getElem?_eq_getElem hx]⟩
        obtain ⟨b2, o2, hbe, hc2⟩ : ∃ b' off, b = some ⟨b', off, none⟩ ∧ w.cell? ⟨b', off + k, none⟩ = some (.bool ys[k]) := by
          rcases HB.out with h0 | ⟨b, off, e, _, hc⟩
          · rw [h0] at hy; simp at hy
          · exact ⟨b, off, e, by rw [hc k hy]; simp [List.getD, List.getElem?_eq_getElem hy]⟩
        subst hae hbe
        have hlt : (k : Int) < (X : Int) := by omega
        have hlt2 : (k : Int) < (Y : Int) := by have := HXY.out; omega
        have HXK : Hid (xs[k]? = some xs[k]) := List.getElem?_eq_getElem hx
        have HYK : Hid (ys[k]? = some ys[k]) := List.getElem?_eq_getElem hy
        obtain ⟨x, hxe⟩ : ∃ x, xs[k] = x := ⟨_, rfl⟩
        obtain ⟨y, hye⟩ : ∃ y, ys[k] = y := ⟨_, rfl⟩
        rw [hxe] at hc1 HXK
        rw [hye] at hc2 HYK
        clear hxe hye hx hy
        by_cases he : x = y
        · have hB : (x != y) = false := by simp [he]
          have HN : Hid (∀ j, j < k + 1 → xs[j]? = ys[j]?) := fun j hj => by
            by_cases hjk : j < k
            · exact HP.out j hjk
            · have : j = k := by omega
              subst this
              rw [HXK.out, HYK.out, he]
          replace he := Lib.hid he
          have hB2 : (x == y) = true := by rw [he.out]; exact beq_self_eq_true y
          go_upto_region 6 with fail
          go_quiet (fail)
          go_wp2_with fail
          go_roundg (gk - 1)
          case measure => omega
          case rel => exact ⟨k + 1, n + nq, by go_num, by omega, by omega, by first | rfl | rw [World.drewN_drewN], HN.out⟩
        · have hB : (x != y) = true := by simp [he]
          have HF : Hid (∀ m, R (.returned (.bool false)) (w.drewN m)) := fun m => by
            rw [← hR.out]
            refine ⟨?_, m, rfl⟩
            have : decide (xs = ys) = false := by
              simp only [decide_eq_false_iff_not]
              intro e
              have h1 := HXK.out
              rw [e, HYK.out] at h1
              exact he (Option.some.inj h1).symm
            rw [this]
          replace he := Lib.hid he
          have hB2 : (x == y) = false := by simpa using he.out
          go_upto_region 6 with fail
          go_quiet (fail)
          go_wp2_with fail
          first
            | exact HF.out _
            | (rw [World.drewN_drewN]; exact HF.out _)
      · have hlt : ¬ (k : Int) < (X : Int) := by omega
        have HF : Hid (R (.returned (.bool true)) (w.drewN n)) := by
          rw [← hR.out]
          refine ⟨?_, n, rfl⟩
          have : decide (xs = ys) = true := by
            simp only [decide_eq_true_eq]
            apply List.ext_getElem?
            intro i
            by_cases hi : i < k
            · exact HP.out i hi
            · rw [List.getElem?_eq_none (by rw [HX.out]; omega), List.getElem?_eq_none (by rw [HY.out, ← HXY.out]; omega)]
          rw [this]
        go_wp2_with fail
        exact HF.out
  · have hlen' : ((xs.length : Int) != (ys.length : Int)) = true := by simp; omega
    have hne : decide (xs = ys) = false := by
      simp only [decide_eq_false_iff_not]
      intro e
      exact hlen (by rw [e])
    have HF : Hid (R (.returned (.bool false)) w) := by
      rw [← hR.out]
      exact ⟨by rw [hne], 0, rfl⟩
    clear hne hlen
    go_enter Try.func17, Try.ntmps17
    go_wp2_with fail
    exact HF.out

theorem sameI_c {w : World} {u v : Value} {xs ys : List Int} (hu : IntsV w u xs) (hv : IntsV w v ys) (hl : xs.length ≤ maxLen) (hl2 : ys.length ≤ maxLen) :
    Calls Try.prog 20 #[u, v] w fun e w' => e = .returned (.bool (decide (xs = ys))) ∧ ∃ n, w' = w.drewN n := by
  obtain ⟨a, ca, rfl, _, ha⟩ := hu
  obtain ⟨b, cb, rfl, _, hb⟩ := hv
  exact sameI_in ha hb ca cb hl hl2
theorem sameB_c {w : World} {u v : Value} {xs ys : List Bool} (hu : BoolsV w u xs) (hv : BoolsV w v ys) (hl : xs.length ≤ maxLen) (hl2 : ys.length ≤ maxLen) :
    Calls Try.prog 17 #[u, v] w fun e w' => e = .returned (.bool (decide (xs = ys))) ∧ ∃ n, w' = w.drewN n := by
  obtain ⟨a, ca, rfl, _, ha⟩ := hu
  obtain ⟨b, cb, rfl, _, hb⟩ := hv
  exact sameB_in ha hb ca cb hl hl2
end Go.Proofs.Ytkeagjphddcjeaa
