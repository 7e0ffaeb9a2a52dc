/-
  All: the numbers whose bits are set, as an iterator. Helper text; the conditions are those typed.
-/
import Derived.Test.YtieahneoofdneaaDoorBitsL
import Derived.Test.YtieahneoofdneaaDoorShelf2
import Derived.Laws.Rows
import Derived.Laws.Tables
import Derived.RangeFuncFrom
import Derived.RangeFuncNested
import Derived.RangeFuncBound
import Derived.RangeFuncCalls
import Derived.RangeFuncLeaves
import Derived.Shelf.Abstract
import Derived.Shelf.RegionOpen
import Derived.WalkKit
import Derived.OwnWalkIn
import Derived.TacticsInMore
import Derived.LoopNIn
import Derived.LoopIn
namespace Go.Proofs.YtieahneoofdneaaDoor
set_option linter.unusedVariables false
set_option linter.unusedSimpArgs false
open Go.RowKit Go.Maps Go.Shelf
attribute [local go_sem] Oper.semAt_some

abbrev Tz (w : World) : Prop := TabAt (Tryd.layTZ_ren.g 1) Lib.deBruijn64tab w
theorem Tz.below {w w' : World} (h : Tz w) (hb : Below w.heap.size w w') : Tz w' := fun j hj => cell_tr hb (h j hj)
theorem tz_c (x : Nat) (hx : x < 18446744073709551616) (w : World) (hT : Tz w) : Calls Tryd.prog 18 #[.int .u64 (x : Int)] w fun e w' => e = .returned (.int .i64 ((Lib.ctz 64 x : Nat) : Int)) ∧ w' = w :=
  Any7.bits_TrailingZeros64 Tryd.layTZ x hx w (fun _ => hT)

theorem load_bits {W : World} {b : Nat} {f : Nat → Value} {ty : TypeId} (h : BoxF W b 1024 f ty) : ∃ arr : Array Value, arr.size = 1024 ∧ (∀ j, j < 1024 → arr[j]? = some (f j)) ∧ W.heap[b]? = some (.cells arr ty (0, 0)) ∧ (loadVar 25 ⟨b, 0, none⟩).run Tryd.prog W = .ok (.agg arr) W := by
  obtain ⟨cur, h1, h2, h3⟩ := h
  exact ⟨cur, h2, h3, h1, run_loadVar_row W b ty 25 cur (0, 0) _ h1 Tryd.underlying25 rfl (by rw [h2]; kernel_rfl)⟩

theorem wpIn_load_agg {F : Fence} {n : Nat} {P : Program} {o : Oper} {a : Act} {w : World} {K : Act → World → Prop} {Q : Exit → Act → World → Prop} (ty : TypeId) (x : Operand) (ho : o.op = .load ty x) (p : Addr) (hx : a.eval x = .pointer (some p)) (v : Value)
    (hl : (loadVar ty p).run P w = .ok v w) (h : K (a.put o.dst v) w) : o.wpIn F n P a w K Q := by
  refine ⟨fun f hf => ?_, ?_⟩
  · simp [Oper.about, ho] at hf
  · rw [Oper.semAt_plain _ _ _ (by rw [ho]; intro c h; cases h)]
    simp only [execOp, ho, hx, Instr.loadAt, Instr.sureAddr, Sem.run_bind, Sem.run_pure, Result.andThen_ok, hl]
    exact h

theorem run_idx (arr : Array Value) (i : Nat) (hi : i < 1024) (v : Value) (hv : arr[i]? = some v) (w : World) : (Instr.index 25 (.agg arr) (.int .i64 (i : Int))).run Tryd.prog w = .ok v w := by
  have h1 : (0 : Int) ≤ (i : Int) ∧ (i : Int) < 1024 := by omega
  have h2 : (part 24 arr i).run Tryd.prog w = .ok v w := by
    unfold part
    rw [Sem.run_bind, Tryd.isAgg24 w]
    simp [hv]
  unfold Instr.index
  simp [asIntOf, run_underlying Tryd.underlying25, Tryd.sizeOf24 w, h1, h2]
  intro h
  omega

set_option maxRecDepth 100000 in
set_option maxHeartbeats 4000000 in
theorem all2_in (n : Nat) (l Bs n₀ : Nat) (W0 : Nat → Nat) (hw0 : ∀ j, W0 j < 18446744073709551616) (L : List Int) (hL : IsBits W0 L) (J Jx : List Int → World → Prop)
    (hY : ∀ pre x W, J pre W → pre.length < L.length → YieldAt Fence.wide (n - 1) Tryd.prog l #[.int .i64 x] W fun e W' =>
      (e = .returned (.bool true) ∧ J (pre ++ [x]) W' ∧ Below n₀ W W') ∨ (e = .returned (.bool false) ∧ Jx (pre ++ [x]) W'))
    (W : World) (hB : BoxF W Bs 1024 (fun j => .int .u64 (W0 j : Int)) 25) (hT : ∀ W', Below n₀ W W' → Tz W') (h0 : J [] W) :
    CallsIn Fence.wide n Tryd.prog 17 #[.func (.yield l) #[] #[], .pointer (some ⟨Bs, 0, none⟩)] W fun e W' => (∃ v, e = .returned v) ∧
      ((∃ ys, ys = L ∧ J ys W') ∨ (∃ pre, pre <+: L ∧ Jx pre W')) := by
  obtain ⟨arr, ha1, ha2, _, hload⟩ := load_bits hB
  clear hB
  replace ha2 := Lib.hid ha2
  replace hT := Lib.hid hT
  replace h0 := Lib.hid h0
  refine callsIn_of_wp Tryd.func17 rfl trivial ?_ rfl
  simp only [Tryd.ntmps17, List.size_toArray, List.length_cons, List.length_nil, Nat.reduceAdd, Nat.reduceSub, Array.replicate_succ, Array.replicate_zero, List.push_toArray, List.append_toArray, List.nil_append, List.cons_append]
  gi_wp2
  refine wpIn_load_agg 25 (.tmp 1) rfl ⟨Bs, 0, none⟩ rfl _ hload ?_
  gi_wp2
  clear hload
  gi_loopw [6] (fun v6 wr => ∃ i : Nat, i ≤ 1024 ∧ v6 = .int .i64 i ∧ Hid (J (upTo L ((64 * i + 0 : Nat) : Int)) wr ∧ Below n₀ W wr)) (fun v6 _ => 1024 - (intOf v6).toNat)
  case atStart => exact ⟨0, Nat.zero_le _, rfl, by rw [upTo_first hL]; exact h0.out, Below.refl _ _⟩
  case round =>
    obtain ⟨i, hi, rfl, HJ⟩ := hrel
    by_cases hlt : i < 1024
    · have hi1 : (i : Int) < 1024 := by omega
      have hi0 : (0 : Int) ≤ (i : Int) := by omega
      have hai := run_idx arr i hlt _ (ha2.out i hlt) wr
      gi_wp2
      gi_loopw [4] (fun v4 wx => ∃ x c : Nat, v4 = .int .u64 x ∧ Hid (Left W0 i x c ∧ J (upTo L ((64 * i + c : Nat) : Int)) wx ∧ Below n₀ W wx)) (fun v4 _ => (intOf v4).toNat)
      case atStart => exact ⟨W0 i, 0, rfl, Left.start hw0 i, HJ.out.1, HJ.out.2⟩
      case round =>
        obtain ⟨wo, rfl⟩ : ∃ wo : World, wo = wr := ⟨_, rfl⟩
        obtain ⟨x, c, rfl, HX⟩ := hrel
        by_cases hx0 : x = 0
        · subst hx0
          have HN : Hid (J (upTo L ((64 * (i + 1) + 0 : Nat) : Int)) wo ∧ Below n₀ W wo) := by
            have := HX.out.2
            rw [HX.out.1.done hL hw0 hlt] at this
            exact this
          gi_wp2
          go_roundw
          case rel => exact ⟨i + 1, by omega, by go_num, HN⟩
          case measure => simp [intOf]; omega
        · have hx1 : ((x : Int) != 0) = true := by simpa using hx0
          obtain ⟨e1, e2, e3⟩ := HX.out.1.step hL hw0 hlt hx0
          obtain ⟨k, hk⟩ : ∃ k, Lib.ctz 64 x = k := ⟨_, rfl⟩
          rw [hk] at e1 e2 e3
          have hlen : (upTo L ((64 * i + c : Nat) : Int)).length < L.length := by
            have h1 := (upTo_prefix ((64 * i + (k + 1) : Nat) : Int) hL.1).length_le
            rw [← e1, List.length_append, List.length_singleton] at h1
            omega
          have hcast : ((64 * i + k : Nat) : Int) = 64 * (i : Int) + (k : Int) := by omega
          rw [hcast] at e1
          obtain ⟨fn, tmps, assign, body, hy, hR⟩ := hY _ (64 * (i : Int) + (k : Int)) wo HX.out.2.1 hlen
          have hTZ := Lib.hid (tz_c x HX.out.1.2.1 wo (hT.out _ HX.out.2.2))
          rw [hk] at hTZ
          rw [e1] at hR
          replace e2 := Lib.hid e2
          have hk64 : (k : Int) < 64 := by omega
          clear e1 hlen hcast hk
          gi_wp2_with (refine ⟨trivial, fun h => (by cases h), ?_⟩; refine (callsIn_wide.2 hTZ.out).mono ?_; rintro e w2 ⟨rfl, rfl⟩)
          refine ⟨fun h => (by cases h), hR.mono ?_⟩
          rintro e W3 (⟨rfl, hJ3, hk3⟩ | ⟨rfl, hJx3⟩)
          · have HN : Hid (Left W0 i (x &&& (x - 1)) (k + 1) ∧ J (upTo L ((64 * i + (k + 1) : Nat) : Int)) W3 ∧ Below n₀ W W3) := ⟨e2.out, hJ3, HX.out.2.2.trans hk3⟩
            clear hJ3 hk3 hR hy
            gi_wp2
            have hand : bits .and .u64 (x : Int) (IntKind.u64.wrap ((x : Int) - 1)) = ((x &&& (x - 1) : Nat) : Int) := by
              have hx2 := HX.out.1.2.1
              have e : IntKind.u64.wrap ((x : Int) - 1) = ((x - 1 : Nat) : Int) := by
                rw [IntKind.wrap_u64]
                omega
              rw [e]
              exact bits_and_u64_nat _ _ hx2 (by omega)
            rw [hand]
            go_roundw
            case rel => exact ⟨_, k + 1, rfl, HN⟩
            case measure =>
              simp only [intOf, Int.toNat_natCast]
              exact and_pred_lt hx0
          · have HF : Hid (upTo L ((64 * i + (k + 1) : Nat) : Int) <+: L) := upTo_prefix _ hL.1
            clear hR hy
            gi_wp2
            refine bodyPost_ret (results_none rfl _ _ _) rfl ?_
            exact ⟨⟨_, rfl⟩, .inr ⟨_, HF.out, hJx3⟩⟩
    · obtain rfl : i = 1024 := by omega
      have HF : Hid (J L wr) := by
        have := HJ.out.1
        rw [upTo_last hL] at this
        exact this
      gi_wp2
      go_end0
      exact ⟨⟨_, rfl⟩, .inl ⟨_, rfl, HF.out⟩⟩
end Go.Proofs.YtieahneoofdneaaDoor
