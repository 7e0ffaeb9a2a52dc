/-
  Numbers, weights, what stands alone: the contracts. Helper text; the conditions are those typed.
-/
import Derived.Test.YtgggbjkgpjcklaaDoorWalkC
namespace Go.Proofs.YtgggbjkgpjcklaaDoor
set_option linter.unusedVariables false
set_option linter.unusedSimpArgs false
open Go.RowKit

def or2 (x y : Int) : Int := if x ≠ 0 then x else y

theorem cmpB_lib : ∀ a b : List UInt8, Lib.compareBytes a b = cmpB a b
  | [], [] => rfl
  | [], _ :: _ => rfl
  | _ :: _, [] => rfl
  | a :: l, b :: m => by
    unfold Lib.compareBytes cmpB
    rw [cmpB_lib l m]
theorem cmpB_tri : ∀ a b : List UInt8, cmpB a b = -1 ∨ cmpB a b = 0 ∨ cmpB a b = 1
  | [], [] => .inr (.inl rfl)
  | [], _ :: _ => .inl rfl
  | _ :: _, [] => .inr (.inr rfl)
  | a :: l, b :: m => by
    unfold cmpB
    split
    · exact .inl rfl
    · split
      · exact .inr (.inr rfl)
      · exact cmpB_tri l m
theorem compareInt_sgn (x y : Int) : Lib.compareInt x y = sgn (x - y) := by
  unfold Lib.compareInt sgn
  (repeat' split) <;> omega
theorem sgn_tri (n : Int) : sgn n = -1 ∨ sgn n = 0 ∨ sgn n = 1 := by
  unfold sgn
  (repeat' split) <;> simp

theorem cmp_c (x y : Int) (w : World) : Calls Tryd.prog 56 #[.int .i64 x, .int .i64 y] w fun e w' => e = .returned (.int .i64 (sgn (x - y))) ∧ w = w' :=
  (Any.cmp_Compare_int Tryd.layCmp x y w).mono fun _ _ ⟨h1, h2⟩ => ⟨by rw [h1, compareInt_sgn], h2.symm⟩
theorem compare_c (a b : ByteArray) (w : World) : Calls Tryd.prog 57 #[.string a, .string b] w fun e w' => e = .returned (.int .i64 (cmpB (bs a) (bs b))) ∧ w = w' :=
  (Any.strings_Compare Tryd.layCompare a b w).mono fun _ _ ⟨h1, h2⟩ => ⟨by rw [h1, cmpB_lib], h2.symm⟩
theorem trim_c (s : ByteArray) : ∃ t : ByteArray, bs t = strip (bs s) ∧ ∀ w, Calls Tryd.prog 55 #[.string s, .string ⟨#[48]⟩] w fun e w' => e = .returned (.string t) ∧ w = w' :=
  ⟨⟨(Lib.trimLeftB s.data.toList 48).toArray⟩, rfl, fun w => (Any.strings_TrimLeft_one Tryd.layTrimLeft s 48 (by decide) w).mono fun _ _ ⟨h1, h2⟩ => ⟨h1, h2.symm⟩⟩

theorem or_c (x y : Int) (b : Nat) (w : World) (h0 : w.cell? ⟨b, 0, none⟩ = some (.int .i64 x)) (h1 : w.cell? ⟨b, 1, none⟩ = some (.int .i64 y)) :
    Calls Tryd.prog 31 #[.slice (some ⟨b, 0, none⟩) 2 2] w fun e w' => e = .returned (.int .i64 (or2 x y)) ∧ w = w' := by
  go_enter Tryd.func31, Tryd.ntmps31
  go_wp2
  go_loopw [5, 8] (fun vv vi wr => ∃ k : Nat, k ≤ 2 ∧ vi = .int .i64 k ∧ w = wr ∧ Hid ((1 ≤ k → x = 0) ∧ (2 ≤ k → y = 0))) (fun _ vi _ => 2 - (intOf vi).toNat)
  case atStart => exact ⟨0, by omega, rfl, rfl, by omega, by omega⟩
  case round =>
    obtain ⟨k, hk, rfl, rfl, HK⟩ := hrel
    have hks : k = 0 ∨ k = 1 ∨ k = 2 := by omega
    rcases hks with rfl | rfl | rfl
    · by_cases hx : x = 0
      · have hB : (x != 0) = false := by simp [hx]
        have HX := Lib.hid hx
        clear hx
        go_wp2
        go_roundw
        case rel => exact ⟨1, by omega, by go_num, trivial, fun _ => HX.out, by omega⟩
        case measure => simp [intOf]
      · have hB : (x != 0) = true := by simp [hx]
        have HX := Lib.hid hx
        clear hx
        go_wp2
        go_ret
        exact ⟨by rw [show or2 x y = x from if_pos HX.out]; rfl, rfl⟩
    · by_cases hx : y = 0
      · have hB : (y != 0) = false := by simp [hx]
        have HX := Lib.hid hx
        clear hx
        go_wp2
        go_roundw
        case rel => exact ⟨2, by omega, by go_num, trivial, fun _ => HK.out.1 (by omega), fun _ => HX.out⟩
        case measure => simp [intOf]
      · have hB : (y != 0) = true := by simp [hx]
        have h0 := Lib.hid (HK.out.1 (by omega))
        clear hx
        go_wp2
        go_ret
        exact ⟨by rw [show or2 x y = y from if_neg (by simpa using h0.out)]; rfl, rfl⟩
    · have e1 := Lib.hid (HK.out.1 (by omega))
      have e2 := Lib.hid (HK.out.2 (by omega))
      go_wp2
      go_ret
      exact ⟨by rw [show or2 x y = 0 from (if_neg (by simpa using e1.out)).trans e2.out]; rfl, rfl⟩

theorem cell_two0 (w : World) (x y : Value) (t : TypeId) : (w.alloc (.cells #[x, y] t)).cell? ⟨w.heap.size, 0, none⟩ = some x := by
  have := heap_alloc_new w (.cells #[x, y] t)
  unfold World.cell?
  simp only [this]
  rfl
theorem cell_two1 (w : World) (x y : Value) (t : TypeId) : (w.alloc (.cells #[x, y] t)).cell? ⟨w.heap.size, 1, none⟩ = some y := by
  have := heap_alloc_new w (.cells #[x, y] t)
  unfold World.cell?
  simp only [this]
  rfl

theorem numbers_c (a b : ByteArray) (ha : a.size ≤ maxLen) (hb : b.size ≤ maxLen) (w : World) :
    Calls Tryd.prog 43 #[.string a, .string b] w fun e w' => e = .returned (.int .i64 (cmpN (bs a) (bs b))) ∧ Below w.heap.size w w' := by
  obtain ⟨sa, ea, ca⟩ := trim_c a
  obtain ⟨sb, eb, cb⟩ := trim_c b
  have he : cmpN (bs a) (bs b) = or2 (sgn ((sa.size : Int) - (sb.size : Int))) (cmpB (bs sa) (bs sb)) := by
    unfold cmpN or2
    rw [← ea, ← eb, bs_length, bs_length]
    by_cases h : sa.size = sb.size
    · rw [if_neg (by simpa using h), if_neg (by rw [h]; simp [sgn])]
    · rw [if_pos h, if_pos (by unfold sgn; (repeat' split) <;> omega)]
  rw [he]
  have CA := Lib.hid ca
  have CB := Lib.hid cb
  clear he ca cb ea eb
  go_enter Tryd.func43, Tryd.ntmps43
  go_wp2_with fail
  refine (CA.out _).mono ?_
  rintro e w' ⟨rfl, rfl⟩
  go_wp2_with fail
  refine (CB.out _).mono ?_
  rintro e w' ⟨rfl, rfl⟩
  go_wp2_with fail
  refine (cmp_c _ _ _).mono ?_
  rintro e w' ⟨rfl, rfl⟩
  go_wp2_with fail
  refine (compare_c _ _ _).mono ?_
  rintro e w' ⟨rfl, rfl⟩
  go_wp2_with fail
  refine (or_c (sgn ((sa.size : Int) - (sb.size : Int))) (cmpB (bs sa) (bs sb)) w.heap.size _ (cell_two0 _ _ _ _) (cell_two1 _ _ _ _)).mono ?_
  rintro e w' ⟨rfl, rfl⟩
  go_wp2
  go_ret
  exact ⟨rfl, below1 _ _⟩

theorem bs_cons {s : ByteArray} (h : 0 < s.size) : ∃ l, bs s = s[0] :: l := by
  have h' : 0 < (bs s).length := by rw [bs_length]; exact h
  cases hs : bs s with
  | nil => rw [hs] at h'; simp at h'
  | cons x l =>
    refine ⟨l, ?_⟩
    have := bs_get s 0 h
    simp only [hs, List.getElem_cons_zero] at this
    rw [this]

theorem weight_c (a : ByteArray) (ha : a.size ≤ maxLen) (w : World) : Calls Tryd.prog 58 #[.string a] w fun e w' => e = .returned (.int .i64 (weight (bs a))) ∧ w = w' := by
  by_cases h0 : a.size = 0
  · obtain rfl := bs_zero h0
    go_enter Tryd.func58, Tryd.ntmps58
    go_wp2
    go_ret
    exact ⟨rfl, rfl⟩
  · have hp : 0 < a.size := by omega
    have he := bs_nonempty hp
    obtain ⟨l, hl⟩ := bs_cons hp
    rw [hl]
    simp only [weight]
    have hb : a[0].toNat < 256 := a[0].toNat_lt
    have hD := digit_c a[0]
    have hL := letter_c a[0]
    generalize hx : a[0] = x at hb hD hL
    have h126 : (x = 126) ↔ x.toNat = 126 := ⟨fun h => by rw [h]; rfl, fun h => UInt8.toNat_inj.1 h⟩
    have HX := Lib.hid hx
    clear hx hl
    have HD := Lib.hid hD
    have HL := Lib.hid hL
    clear hD hL
    cases h1 : dig x with
    | true =>
      rw [h1] at HD
      rw [if_pos rfl]
      clear h1 h126
      go_enter Tryd.func58, Tryd.ntmps58
      go_wp2_with fail
      rw [HX.out]
      refine (HD.out _).mono ?_
      rintro e w' ⟨rfl, rfl⟩
      go_wp2
      go_ret
      exact ⟨rfl, rfl⟩
    | false =>
      rw [h1] at HD
      rw [if_neg (by decide)]
      clear h1
      by_cases h2 : x = 126
      · rw [if_pos h2]
        have hB : ((x.toNat : Int) == 126) = true := by simp; have := h126.1 h2; omega
        clear h126 h2
        go_enter Tryd.func58, Tryd.ntmps58
        go_wp2_with fail
        rw [HX.out]
        refine (HD.out _).mono ?_
        rintro e w' ⟨rfl, rfl⟩
        have hxx := HX.out
        go_wp2
        go_ret
        exact ⟨rfl, rfl⟩
      · rw [if_neg h2]
        have hB : ((x.toNat : Int) == 126) = false := by simp; have := mt h126.2 h2; omega
        clear h126 h2
        cases h3 : lett x with
        | true =>
          rw [h3] at HL
          rw [if_pos rfl]
          clear h3
          go_enter Tryd.func58, Tryd.ntmps58
          go_wp2_with fail
          rw [HX.out]
          refine (HD.out _).mono ?_
          rintro e w' ⟨rfl, rfl⟩
          have hxx := HX.out
          go_wp2_with fail
          refine (HL.out _).mono ?_
          rintro e w' ⟨rfl, rfl⟩
          go_wp2
          go_ret
          exact ⟨rfl, rfl⟩
        | false =>
          rw [h3] at HL
          rw [if_neg (by decide)]
          clear h3
          go_enter Tryd.func58, Tryd.ntmps58
          go_wp2_with fail
          rw [HX.out]
          refine (HD.out _).mono ?_
          rintro e w' ⟨rfl, rfl⟩
          have hxx := HX.out
          go_wp2_with fail
          refine (HL.out _).mono ?_
          rintro e w' ⟨rfl, rfl⟩
          go_wp2
          go_ret
          exact ⟨rfl, rfl⟩

theorem order_c (x y : Bool) (g : Int) (hg : g = 1 ∨ g = -1) (w : World) : Calls Tryd.prog 47 #[.bool x, .bool y, .int .i64 g] w fun e w' => e = .returned (.int .i64 (if x && !y then g else if y && !x then -g else 0)) ∧ w = w' := by
  rcases hg with rfl | rfl <;> cases x <;> cases y
  all_goals
    go_enter Tryd.func47, Tryd.ntmps47
    go_wp2
    go_ret
    exact ⟨rfl, rfl⟩
end Go.Proofs.YtgggbjkgpjcklaaDoor
