/-
  The walk of AttrsGlobs. Helper text; the conditions are those typed.
-/
import Derived.Test.YtnplmembdfklcaaDoorLawA
import Derived.Lib.SmallJoins
namespace Go.Proofs.YtnplmembdfklcaaDoor
set_option linter.unusedVariables false
set_option linter.unusedSimpArgs false
open Go.RowKit

def plainL (l : List UInt8) : Bool := l.all fun c => c != 42 && c != 63
theorem plain_self {l : List UInt8} (h : plainL l = true) : G l l = true := G_self fun c hc => by
  have := List.all_eq_true.1 h c hc
  simpa using this
theorem plain_step (l : List UInt8) (i : Nat) (h : i < l.length) : plainL (l.take (i + 1)) = (plainL (l.take i) && (!(l[i] == 42) && !(l[i] == 63))) := by
  unfold plainL
  rw [List.take_add_one, List.getElem?_eq_getElem h, List.all_append]
  simp [bne]
theorem bs_app (a b : ByteArray) : bs (a ++ b) = bs a ++ bs b := Go.Joins.data_append a b
theorem size_app (a b : ByteArray) : (a ++ b).size = a.size + b.size := by
  rw [← bs_len, bs_app, List.length_append, bs_len, bs_len]
theorem begins_within {s t : List UInt8} (h : Lib.hasPrefix s t = true) : Lib.contains s t = true := by
  unfold Lib.contains
  rcases Lib.index_spec s t with ⟨_, h2⟩ | ⟨i, h2, _⟩
  · have := h2 0 (Nat.zero_le _)
    unfold Lib.occAt at this
    rw [List.drop_zero] at this
    unfold Lib.hasPrefix at h
    rw [h] at this
    cases this
  · rw [h2]
    exact decide_eq_true (by omega)
theorem exact_begins {s t : List UInt8} (h : (t == s) = true) : Lib.hasPrefix s t = true := by
  have : t = s := by simpa using h
  subst this
  unfold Lib.hasPrefix
  simp

set_option maxHeartbeats 4000000 in
set_option maxRecDepth 100000 in
theorem globs_walk (p s q t : ByteArray) (hp : p.size ≤ 1048576) (hs : s.size ≤ 1048576) (hq : q.size ≤ 1048576) (ht : t.size ≤ 1048576) (w : World) (hm : MaxLenC w) :
    Calls Tryd.prog 5 #[.string p, .string s, .string q, .string t] w fun e w' => e = .returned (.bool true) ∧ Below w.heap.size w w' := by
  have H0 : Hid (∀ w', Calls Tryd.prog 8 #[] w' fun e w'' => e = .returned (.bool true) ∧ Below w'.heap.size w' w'') := awake_c
  have HF : Hid (∀ how a b, a.size ≤ 4194304 → b.size ≤ 4194304 → ∀ w', Below w.heap.size w w' → Calls Tryd.prog 9 #[.int .i64 how, .string a, .string b] w' fun e w'' => e = .returned (.bool (fitsB how (bs a) (bs b))) ∧ Below w.heap.size w w'') := fun how a b ha hb w' hw =>
    (fits_c how a b (Nat.le_trans ha (by decide)) (Nat.le_trans hb (by decide)) (fun _ => by omega) w' (fun _ => hm.below hw)).mono fun e w'' ⟨h1, h2⟩ => ⟨h1, below_tr hw h2⟩
  have PL : Hid (plainL (bs s) = true → fitsB 4 (bs s) (bs s) = true) := fun h => plain_self h
  have z1 : (p ++ q).size ≤ 4194304 := by rw [size_app]; omega
  have z2 : (s ++ t).size ≤ 4194304 := by rw [size_app]; omega
  have z3 : (p ++ (⟨#[42]⟩ : ByteArray)).size ≤ 4194304 := by rw [size_app]; show p.size + 1 ≤ _; omega
  have z4 : ((⟨#[42]⟩ : ByteArray) ++ p).size ≤ 4194304 := by rw [size_app]; show 1 + p.size ≤ _; omega
  have z5 : (t ++ s).size ≤ 4194304 := by rw [size_app]; omega
  have AB : Hid (fitsB 4 (bs p) (bs s) = true → fitsB 4 (bs q) (bs t) = true → fitsB 4 (bs (p ++ q)) (bs (s ++ t)) = true) := fun h1 h2 => by
    rw [bs_app, bs_app]
    exact G_append.2 ⟨_, _, rfl, h1, h2⟩
  have AS : Hid (fitsB 4 (bs p) (bs s) = true → fitsB 4 (bs (p ++ (⟨#[42]⟩ : ByteArray))) (bs (s ++ t)) = true ∧ fitsB 4 (bs ((⟨#[42]⟩ : ByteArray) ++ p)) (bs (t ++ s)) = true) := fun h1 => by
    rw [bs_app, bs_app, bs_app, bs_app]
    exact ⟨G_append.2 ⟨_, _, rfl, h1, G_one_star _⟩, G_star'.2 ⟨_, _, rfl, h1⟩⟩
  have BW : Hid (fitsB 2 (bs t) (bs s) = true → fitsB 3 (bs t) (bs s) = true) := fun h => begins_within h
  have EB : Hid (fitsB 1 (bs t) (bs s) = true → fitsB 2 (bs t) (bs s) = true) := fun h => exact_begins h
  have zp : p.size ≤ 4194304 := by omega
  have zs : s.size ≤ 4194304 := by omega
  have zq : q.size ≤ 4194304 := by omega
  have zt : t.size ≤ 4194304 := by omega
  clear hp hq ht hm
  replace z1 := Lib.hid z1
  replace z2 := Lib.hid z2
  replace z3 := Lib.hid z3
  replace z4 := Lib.hid z4
  replace z5 := Lib.hid z5
  go_enter Tryd.func5, Tryd.ntmps5
  go_upto_block 0 with (go_at_call 8; refine (H0.out _).mono ?_; rintro e w1 ⟨rfl, hb⟩)
  replace hb := Lib.hid hb
  go_cut [10, 11] from 17 (fun v10 v11 wx => v10 = .bool (plainL (bs s)) ∧ wx = w1)
  case first =>
    go_wp2_with fail
    go_loopw [10, 11] (fun v10 v11 wr => ∃ i : Nat, v11 = .int .i64 i ∧ i ≤ s.size ∧ v10 = .bool (plainL ((bs s).take i)) ∧ wr = w1) (fun _ v11 _ => s.size - (intOf v11).toNat)
    case atStart => exact ⟨0, rfl, Nat.zero_le _, rfl, rfl⟩
    case round =>
      obtain ⟨i, rfl, hi, rfl, rfl⟩ := hrel
      by_cases hlt : i < s.size
      · have hi1 : (i : Int) < (s.size : Int) := by omega
        have hst := plain_step (bs s) i (by rw [bs_len]; exact hlt)
        have hc := bs_get s i hlt (by rw [bs_len]; exact hlt)
        rw [hc] at hst
        clear hc
        generalize plainL ((bs s).take i) = b at hst
        have e42 : (((s[i]'hlt).toNat : Int) == 42) = ((s[i]'hlt) == 42) := by
          by_cases e : (s[i]'hlt) = 42
          · rw [e]; rfl
          · have h1 : ((s[i]'hlt) == 42) = false := by simpa using e
            rw [h1, beq_eq_false_iff_ne]
            intro h2
            exact e (UInt8.toNat_inj.1 (by show (s[i]'hlt).toNat = 42; omega))
        have e63 : (((s[i]'hlt).toNat : Int) == 63) = ((s[i]'hlt) == 63) := by
          by_cases e : (s[i]'hlt) = 63
          · rw [e]; rfl
          · have h1 : ((s[i]'hlt) == 63) = false := by simpa using e
            rw [h1, beq_eq_false_iff_ne]
            intro h2
            exact e (UInt8.toNat_inj.1 (by show (s[i]'hlt).toNat = 63; omega))
        generalize ((s[i]'hlt) == 42) = x at e42 hst
        generalize ((s[i]'hlt) == 63) = y at e63 hst
        obtain ⟨b2, hB2⟩ : ∃ b2, plainL ((bs s).take (i + 1)) = b2 := ⟨_, rfl⟩
        rw [hB2] at hst
        replace hB2 := Lib.hid hB2
        replace hst := Lib.hid hst
        cases x with
        | true =>
          go_wp2_with fail
          go_roundw
          case rel => exact ⟨i + 1, by go_num, by omega, by rw [hB2.out, hst.out]; simp, by trivial⟩
          case measure => simp [intOf]; omega
        | false =>
          cases y with
          | true =>
            go_wp2_with fail
            go_roundw
            case rel => exact ⟨i + 1, by go_num, by omega, by rw [hB2.out, hst.out]; simp, by trivial⟩
            case measure => simp [intOf]; omega
          | false =>
            go_wp2_with fail
            go_roundw
            case rel => exact ⟨i + 1, by go_num, by omega, by rw [hB2.out, hst.out]; simp, by trivial⟩
            case measure => simp [intOf]; omega
      · have hi1 : ¬ (i : Int) < (s.size : Int) := by omega
        have hie : i = s.size := by omega
        have hf : (bs s).take i = bs s := List.take_of_length_le (by rw [bs_len]; omega)
        rw [hf]
        replace hf := Lib.hid hf
        go_wp2_with fail
        go_meet
        exact ⟨rfl, rfl⟩
  case rest =>
    obtain ⟨rfl, rfl⟩ := hcut
    cases hpl : plainL (bs s) with
    | true =>
      have hss := PL.out hpl
      replace hpl := Lib.hid hpl
      cases hA : fitsB 4 (bs p) (bs s) with
      | true =>
        obtain ⟨hA1, hA2⟩ := AS.out hA
        cases hB : fitsB 4 (bs q) (bs t) with
        | true =>
          have hAB := AB.out hA hB
          go_upto_region 16 with (go_at_call 9; refine (HF.out _ _ _ (by first | assumption | exact z1.out | exact z2.out | exact z3.out | exact z4.out | exact z5.out) (by first | assumption | exact z1.out | exact z2.out | exact z3.out | exact z4.out | exact z5.out) _ hb.out).mono ?_; rintro e w2 ⟨rfl, hb2⟩; clear hb; have hb := Lib.hid hb2; clear hb2)
          cases hEX : fitsB 1 (bs t) (bs s) with
          | true =>
            have hBE := EB.out hEX
            have hWI := BW.out hBE
            go_wp2_with (go_at_call 9; refine (HF.out _ _ _ (by first | assumption | exact z1.out | exact z2.out | exact z3.out | exact z4.out | exact z5.out) (by first | assumption | exact z1.out | exact z2.out | exact z3.out | exact z4.out | exact z5.out) _ hb.out).mono ?_; rintro e w2 ⟨rfl, hb2⟩; clear hb; have hb := Lib.hid hb2; clear hb2)
            go_ret
            exact ⟨rfl, hb.out⟩
          | false =>
            cases hBE : fitsB 2 (bs t) (bs s) with
            | true =>
              have hWI := BW.out hBE
              go_wp2_with (go_at_call 9; refine (HF.out _ _ _ (by first | assumption | exact z1.out | exact z2.out | exact z3.out | exact z4.out | exact z5.out) (by first | assumption | exact z1.out | exact z2.out | exact z3.out | exact z4.out | exact z5.out) _ hb.out).mono ?_; rintro e w2 ⟨rfl, hb2⟩; clear hb; have hb := Lib.hid hb2; clear hb2)
              go_ret
              exact ⟨rfl, hb.out⟩
            | false =>
              go_wp2_with (go_at_call 9; refine (HF.out _ _ _ (by first | assumption | exact z1.out | exact z2.out | exact z3.out | exact z4.out | exact z5.out) (by first | assumption | exact z1.out | exact z2.out | exact z3.out | exact z4.out | exact z5.out) _ hb.out).mono ?_; rintro e w2 ⟨rfl, hb2⟩; clear hb; have hb := Lib.hid hb2; clear hb2)
              go_ret
              exact ⟨rfl, hb.out⟩
        | false =>
          go_upto_region 16 with (go_at_call 9; refine (HF.out _ _ _ (by first | assumption | exact z1.out | exact z2.out | exact z3.out | exact z4.out | exact z5.out) (by first | assumption | exact z1.out | exact z2.out | exact z3.out | exact z4.out | exact z5.out) _ hb.out).mono ?_; rintro e w2 ⟨rfl, hb2⟩; clear hb; have hb := Lib.hid hb2; clear hb2)
          cases hEX : fitsB 1 (bs t) (bs s) with
          | true =>
            have hBE := EB.out hEX
            have hWI := BW.out hBE
            go_wp2_with (go_at_call 9; refine (HF.out _ _ _ (by first | assumption | exact z1.out | exact z2.out | exact z3.out | exact z4.out | exact z5.out) (by first | assumption | exact z1.out | exact z2.out | exact z3.out | exact z4.out | exact z5.out) _ hb.out).mono ?_; rintro e w2 ⟨rfl, hb2⟩; clear hb; have hb := Lib.hid hb2; clear hb2)
            go_ret
            exact ⟨rfl, hb.out⟩
          | false =>
            cases hBE : fitsB 2 (bs t) (bs s) with
            | true =>
              have hWI := BW.out hBE
              go_wp2_with (go_at_call 9; refine (HF.out _ _ _ (by first | assumption | exact z1.out | exact z2.out | exact z3.out | exact z4.out | exact z5.out) (by first | assumption | exact z1.out | exact z2.out | exact z3.out | exact z4.out | exact z5.out) _ hb.out).mono ?_; rintro e w2 ⟨rfl, hb2⟩; clear hb; have hb := Lib.hid hb2; clear hb2)
              go_ret
              exact ⟨rfl, hb.out⟩
            | false =>
              go_wp2_with (go_at_call 9; refine (HF.out _ _ _ (by first | assumption | exact z1.out | exact z2.out | exact z3.out | exact z4.out | exact z5.out) (by first | assumption | exact z1.out | exact z2.out | exact z3.out | exact z4.out | exact z5.out) _ hb.out).mono ?_; rintro e w2 ⟨rfl, hb2⟩; clear hb; have hb := Lib.hid hb2; clear hb2)
              go_ret
              exact ⟨rfl, hb.out⟩
      | false =>
        cases hB : fitsB 4 (bs q) (bs t) with
        | true =>
          go_upto_region 16 with (go_at_call 9; refine (HF.out _ _ _ (by first | assumption | exact z1.out | exact z2.out | exact z3.out | exact z4.out | exact z5.out) (by first | assumption | exact z1.out | exact z2.out | exact z3.out | exact z4.out | exact z5.out) _ hb.out).mono ?_; rintro e w2 ⟨rfl, hb2⟩; clear hb; have hb := Lib.hid hb2; clear hb2)
          cases hEX : fitsB 1 (bs t) (bs s) with
          | true =>
            have hBE := EB.out hEX
            have hWI := BW.out hBE
            go_wp2_with (go_at_call 9; refine (HF.out _ _ _ (by first | assumption | exact z1.out | exact z2.out | exact z3.out | exact z4.out | exact z5.out) (by first | assumption | exact z1.out | exact z2.out | exact z3.out | exact z4.out | exact z5.out) _ hb.out).mono ?_; rintro e w2 ⟨rfl, hb2⟩; clear hb; have hb := Lib.hid hb2; clear hb2)
            go_ret
            exact ⟨rfl, hb.out⟩
          | false =>
            cases hBE : fitsB 2 (bs t) (bs s) with
            | true =>
              have hWI := BW.out hBE
              go_wp2_with (go_at_call 9; refine (HF.out _ _ _ (by first | assumption | exact z1.out | exact z2.out | exact z3.out | exact z4.out | exact z5.out) (by first | assumption | exact z1.out | exact z2.out | exact z3.out | exact z4.out | exact z5.out) _ hb.out).mono ?_; rintro e w2 ⟨rfl, hb2⟩; clear hb; have hb := Lib.hid hb2; clear hb2)
              go_ret
              exact ⟨rfl, hb.out⟩
            | false =>
              go_wp2_with (go_at_call 9; refine (HF.out _ _ _ (by first | assumption | exact z1.out | exact z2.out | exact z3.out | exact z4.out | exact z5.out) (by first | assumption | exact z1.out | exact z2.out | exact z3.out | exact z4.out | exact z5.out) _ hb.out).mono ?_; rintro e w2 ⟨rfl, hb2⟩; clear hb; have hb := Lib.hid hb2; clear hb2)
              go_ret
              exact ⟨rfl, hb.out⟩
        | false =>
          go_upto_region 16 with (go_at_call 9; refine (HF.out _ _ _ (by first | assumption | exact z1.out | exact z2.out | exact z3.out | exact z4.out | exact z5.out) (by first | assumption | exact z1.out | exact z2.out | exact z3.out | exact z4.out | exact z5.out) _ hb.out).mono ?_; rintro e w2 ⟨rfl, hb2⟩; clear hb; have hb := Lib.hid hb2; clear hb2)
          cases hEX : fitsB 1 (bs t) (bs s) with
          | true =>
            have hBE := EB.out hEX
            have hWI := BW.out hBE
            go_wp2_with (go_at_call 9; refine (HF.out _ _ _ (by first | assumption | exact z1.out | exact z2.out | exact z3.out | exact z4.out | exact z5.out) (by first | assumption | exact z1.out | exact z2.out | exact z3.out | exact z4.out | exact z5.out) _ hb.out).mono ?_; rintro e w2 ⟨rfl, hb2⟩; clear hb; have hb := Lib.hid hb2; clear hb2)
            go_ret
            exact ⟨rfl, hb.out⟩
          | false =>
            cases hBE : fitsB 2 (bs t) (bs s) with
            | true =>
              have hWI := BW.out hBE
              go_wp2_with (go_at_call 9; refine (HF.out _ _ _ (by first | assumption | exact z1.out | exact z2.out | exact z3.out | exact z4.out | exact z5.out) (by first | assumption | exact z1.out | exact z2.out | exact z3.out | exact z4.out | exact z5.out) _ hb.out).mono ?_; rintro e w2 ⟨rfl, hb2⟩; clear hb; have hb := Lib.hid hb2; clear hb2)
              go_ret
              exact ⟨rfl, hb.out⟩
            | false =>
              go_wp2_with (go_at_call 9; refine (HF.out _ _ _ (by first | assumption | exact z1.out | exact z2.out | exact z3.out | exact z4.out | exact z5.out) (by first | assumption | exact z1.out | exact z2.out | exact z3.out | exact z4.out | exact z5.out) _ hb.out).mono ?_; rintro e w2 ⟨rfl, hb2⟩; clear hb; have hb := Lib.hid hb2; clear hb2)
              go_ret
              exact ⟨rfl, hb.out⟩
    | false =>
      replace hpl := Lib.hid hpl
      cases hA : fitsB 4 (bs p) (bs s) with
      | true =>
        obtain ⟨hA1, hA2⟩ := AS.out hA
        cases hB : fitsB 4 (bs q) (bs t) with
        | true =>
          have hAB := AB.out hA hB
          go_upto_region 16 with (go_at_call 9; refine (HF.out _ _ _ (by first | assumption | exact z1.out | exact z2.out | exact z3.out | exact z4.out | exact z5.out) (by first | assumption | exact z1.out | exact z2.out | exact z3.out | exact z4.out | exact z5.out) _ hb.out).mono ?_; rintro e w2 ⟨rfl, hb2⟩; clear hb; have hb := Lib.hid hb2; clear hb2)
          cases hEX : fitsB 1 (bs t) (bs s) with
          | true =>
            have hBE := EB.out hEX
            have hWI := BW.out hBE
            go_wp2_with (go_at_call 9; refine (HF.out _ _ _ (by first | assumption | exact z1.out | exact z2.out | exact z3.out | exact z4.out | exact z5.out) (by first | assumption | exact z1.out | exact z2.out | exact z3.out | exact z4.out | exact z5.out) _ hb.out).mono ?_; rintro e w2 ⟨rfl, hb2⟩; clear hb; have hb := Lib.hid hb2; clear hb2)
            go_ret
            exact ⟨rfl, hb.out⟩
          | false =>
            cases hBE : fitsB 2 (bs t) (bs s) with
            | true =>
              have hWI := BW.out hBE
              go_wp2_with (go_at_call 9; refine (HF.out _ _ _ (by first | assumption | exact z1.out | exact z2.out | exact z3.out | exact z4.out | exact z5.out) (by first | assumption | exact z1.out | exact z2.out | exact z3.out | exact z4.out | exact z5.out) _ hb.out).mono ?_; rintro e w2 ⟨rfl, hb2⟩; clear hb; have hb := Lib.hid hb2; clear hb2)
              go_ret
              exact ⟨rfl, hb.out⟩
            | false =>
              go_wp2_with (go_at_call 9; refine (HF.out _ _ _ (by first | assumption | exact z1.out | exact z2.out | exact z3.out | exact z4.out | exact z5.out) (by first | assumption | exact z1.out | exact z2.out | exact z3.out | exact z4.out | exact z5.out) _ hb.out).mono ?_; rintro e w2 ⟨rfl, hb2⟩; clear hb; have hb := Lib.hid hb2; clear hb2)
              go_ret
              exact ⟨rfl, hb.out⟩
        | false =>
          go_upto_region 16 with (go_at_call 9; refine (HF.out _ _ _ (by first | assumption | exact z1.out | exact z2.out | exact z3.out | exact z4.out | exact z5.out) (by first | assumption | exact z1.out | exact z2.out | exact z3.out | exact z4.out | exact z5.out) _ hb.out).mono ?_; rintro e w2 ⟨rfl, hb2⟩; clear hb; have hb := Lib.hid hb2; clear hb2)
          cases hEX : fitsB 1 (bs t) (bs s) with
          | true =>
            have hBE := EB.out hEX
            have hWI := BW.out hBE
            go_wp2_with (go_at_call 9; refine (HF.out _ _ _ (by first | assumption | exact z1.out | exact z2.out | exact z3.out | exact z4.out | exact z5.out) (by first | assumption | exact z1.out | exact z2.out | exact z3.out | exact z4.out | exact z5.out) _ hb.out).mono ?_; rintro e w2 ⟨rfl, hb2⟩; clear hb; have hb := Lib.hid hb2; clear hb2)
            go_ret
            exact ⟨rfl, hb.out⟩
          | false =>
            cases hBE : fitsB 2 (bs t) (bs s) with
            | true =>
              have hWI := BW.out hBE
              go_wp2_with (go_at_call 9; refine (HF.out _ _ _ (by first | assumption | exact z1.out | exact z2.out | exact z3.out | exact z4.out | exact z5.out) (by first | assumption | exact z1.out | exact z2.out | exact z3.out | exact z4.out | exact z5.out) _ hb.out).mono ?_; rintro e w2 ⟨rfl, hb2⟩; clear hb; have hb := Lib.hid hb2; clear hb2)
              go_ret
              exact ⟨rfl, hb.out⟩
            | false =>
              go_wp2_with (go_at_call 9; refine (HF.out _ _ _ (by first | assumption | exact z1.out | exact z2.out | exact z3.out | exact z4.out | exact z5.out) (by first | assumption | exact z1.out | exact z2.out | exact z3.out | exact z4.out | exact z5.out) _ hb.out).mono ?_; rintro e w2 ⟨rfl, hb2⟩; clear hb; have hb := Lib.hid hb2; clear hb2)
              go_ret
              exact ⟨rfl, hb.out⟩
      | false =>
        cases hB : fitsB 4 (bs q) (bs t) with
        | true =>
          go_upto_region 16 with (go_at_call 9; refine (HF.out _ _ _ (by first | assumption | exact z1.out | exact z2.out | exact z3.out | exact z4.out | exact z5.out) (by first | assumption | exact z1.out | exact z2.out | exact z3.out | exact z4.out | exact z5.out) _ hb.out).mono ?_; rintro e w2 ⟨rfl, hb2⟩; clear hb; have hb := Lib.hid hb2; clear hb2)
          cases hEX : fitsB 1 (bs t) (bs s) with
          | true =>
            have hBE := EB.out hEX
            have hWI := BW.out hBE
            go_wp2_with (go_at_call 9; refine (HF.out _ _ _ (by first | assumption | exact z1.out | exact z2.out | exact z3.out | exact z4.out | exact z5.out) (by first | assumption | exact z1.out | exact z2.out | exact z3.out | exact z4.out | exact z5.out) _ hb.out).mono ?_; rintro e w2 ⟨rfl, hb2⟩; clear hb; have hb := Lib.hid hb2; clear hb2)
            go_ret
            exact ⟨rfl, hb.out⟩
          | false =>
            cases hBE : fitsB 2 (bs t) (bs s) with
            | true =>
              have hWI := BW.out hBE
              go_wp2_with (go_at_call 9; refine (HF.out _ _ _ (by first | assumption | exact z1.out | exact z2.out | exact z3.out | exact z4.out | exact z5.out) (by first | assumption | exact z1.out | exact z2.out | exact z3.out | exact z4.out | exact z5.out) _ hb.out).mono ?_; rintro e w2 ⟨rfl, hb2⟩; clear hb; have hb := Lib.hid hb2; clear hb2)
              go_ret
              exact ⟨rfl, hb.out⟩
            | false =>
              go_wp2_with (go_at_call 9; refine (HF.out _ _ _ (by first | assumption | exact z1.out | exact z2.out | exact z3.out | exact z4.out | exact z5.out) (by first | assumption | exact z1.out | exact z2.out | exact z3.out | exact z4.out | exact z5.out) _ hb.out).mono ?_; rintro e w2 ⟨rfl, hb2⟩; clear hb; have hb := Lib.hid hb2; clear hb2)
              go_ret
              exact ⟨rfl, hb.out⟩
        | false =>
          go_upto_region 16 with (go_at_call 9; refine (HF.out _ _ _ (by first | assumption | exact z1.out | exact z2.out | exact z3.out | exact z4.out | exact z5.out) (by first | assumption | exact z1.out | exact z2.out | exact z3.out | exact z4.out | exact z5.out) _ hb.out).mono ?_; rintro e w2 ⟨rfl, hb2⟩; clear hb; have hb := Lib.hid hb2; clear hb2)
          cases hEX : fitsB 1 (bs t) (bs s) with
          | true =>
            have hBE := EB.out hEX
            have hWI := BW.out hBE
            go_wp2_with (go_at_call 9; refine (HF.out _ _ _ (by first | assumption | exact z1.out | exact z2.out | exact z3.out | exact z4.out | exact z5.out) (by first | assumption | exact z1.out | exact z2.out | exact z3.out | exact z4.out | exact z5.out) _ hb.out).mono ?_; rintro e w2 ⟨rfl, hb2⟩; clear hb; have hb := Lib.hid hb2; clear hb2)
            go_ret
            exact ⟨rfl, hb.out⟩
          | false =>
            cases hBE : fitsB 2 (bs t) (bs s) with
            | true =>
              have hWI := BW.out hBE
              go_wp2_with (go_at_call 9; refine (HF.out _ _ _ (by first | assumption | exact z1.out | exact z2.out | exact z3.out | exact z4.out | exact z5.out) (by first | assumption | exact z1.out | exact z2.out | exact z3.out | exact z4.out | exact z5.out) _ hb.out).mono ?_; rintro e w2 ⟨rfl, hb2⟩; clear hb; have hb := Lib.hid hb2; clear hb2)
              go_ret
              exact ⟨rfl, hb.out⟩
            | false =>
              go_wp2_with (go_at_call 9; refine (HF.out _ _ _ (by first | assumption | exact z1.out | exact z2.out | exact z3.out | exact z4.out | exact z5.out) (by first | assumption | exact z1.out | exact z2.out | exact z3.out | exact z4.out | exact z5.out) _ hb.out).mono ?_; rintro e w2 ⟨rfl, hb2⟩; clear hb; have hb := Lib.hid hb2; clear hb2)
              go_ret
              exact ⟨rfl, hb.out⟩
end Go.Proofs.YtnplmembdfklcaaDoor
