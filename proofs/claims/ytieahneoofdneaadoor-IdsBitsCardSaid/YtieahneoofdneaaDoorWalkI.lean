/-
  The document's Minus. Helper text; the conditions are those typed.
-/
import Derived.Test.YtieahneoofdneaaDoorWalkG
namespace Go.Proofs.YtieahneoofdneaaDoor
set_option linter.unusedVariables false
set_option linter.unusedSimpArgs false
open Go.RowKit Go.Maps Go.Shelf Go.Sort
theorem refSort_length (l : List Int) : (refSort l).length ≤ l.length := by
  have h2 : ∀ (xs acc : List Int), (xs.foldl put1 acc).length ≤ acc.length + xs.length := by
    intro xs
    induction xs with
    | nil => intro acc; simp
    | cons y ys ih =>
      intro acc
      have h3 := ih (put1 acc y)
      have h4 := put1_length acc y
      simp only [List.foldl_cons, List.length_cons]
      omega
  have := h2 l []
  unfold refSort
  simpa using this

set_option maxHeartbeats 2000000 in
theorem refMinus_in {w : World} {A B : Option Addr} {na ca nb cb : Nat} {xs ys : List Int} (ha : CutI w A na ca xs) (hb : CutI w B nb cb ys) (hl : (na + 1) * 8 ≤ 140737488355328) :
    Calls Tryd.prog 9 #[.slice A na ca, .slice B nb cb] w fun e w' => ∃ v, e = .returned v ∧ SliceI w' v (mergedOf stMinus xs ys) ∧ Below w.heap.size w w' := by
  rw [minus_ref]
  have hnc : na ≤ ca := ha.2.2.1
  have hcm : ca ≤ 9223372036854775807 := ha.2.2.2
  have HN := Lib.hid ha.1
  have HA := Lib.hid ha
  have HB := Lib.hid hb
  clear ha hb
  go_enter Tryd.func9, Tryd.ntmps9
  go_wp2_with fail
  go_loopw [5, 6] (fun vo vi wr => ∃ k : Nat, k ≤ na ∧ vi = .int .i64 k ∧ Hid (SliceI wr vo (refSort ((xs.take k).filter (fun x => !decide (x ∈ ys)))) ∧ Below w.heap.size w wr)) (fun _ vi _ => na - (intOf vi).toNat)
  case atStart => exact ⟨0, Nat.zero_le _, rfl, ⟨⟨none, 0, 0, rfl, rfl, .inl rfl, Nat.le_refl _, Nat.zero_le _⟩, Below.refl _ _⟩⟩
  case round =>
    obtain ⟨k, hk, rfl, HP⟩ := hrel
    obtain ⟨⟨A1, n1, c1, rfl, hcut⟩, hb⟩ := HP.out
    have HBl := Lib.hid hb
    have HC := Lib.hid hcut
    clear hb hcut
    by_cases hkl : k < na
    · have hkl' : k < xs.length := by have := HN.out; omega
      obtain ⟨b, off, rfl, hc⟩ := (HA.out.2.1.below HBl.out).cell hkl'
      have hlt : (k : Int) < (na : Int) := by omega
      have hn1 : n1 ≤ k := by
        have h1 := HC.out.1
        have h2 := refSort_length ((xs.take k).filter (fun x => !decide (x ∈ ys)))
        have h3 := List.length_filter_le (fun x => !decide (x ∈ ys)) (xs.take k)
        have h4 : (xs.take k).length ≤ k := List.length_take_le _ _
        omega
      have hts : refSort ((xs.take (k + 1)).filter (fun x => !decide (x ∈ ys))) = if decide (xs[k] ∈ ys) = false then put1 (refSort ((xs.take k).filter (fun x => !decide (x ∈ ys)))) xs[k] else refSort ((xs.take k).filter (fun x => !decide (x ∈ ys))) := by
        rw [List.take_succ_eq_append_getElem hkl', List.filter_append]
        by_cases hm : xs[k] ∈ ys
        · simp [List.filter_cons, hm, refSort, List.foldl_append]
        · simp [List.filter_cons, hm, refSort, List.foldl_append]
      have HBB := Lib.hid (HB.out.below HBl.out)
      generalize hy : xs[k] = y at hc hts
      have HTS := Lib.hid hts
      clear hts hy
      go_wp2_with fail
      refine (has_in HBB.out y).mono ?_
      rintro e w3 ⟨rfl, rfl⟩
      by_cases hm : y ∈ ys
      · have hd : decide (y ∈ ys) = true := by simpa using hm
        have HD := Lib.hid hd
        rw [hd]
        clear hd hm
        have H3 : Hid (SliceI wr (.slice A1 n1 c1) (refSort ((xs.take (k + 1)).filter (fun x => !decide (x ∈ ys)))) ∧ Below w.heap.size w wr) := ⟨by rw [HTS.out, if_neg (by rw [HD.out]; decide)]; exact ⟨_, _, _, rfl, HC.out⟩, HBl.out⟩
        go_wp2
        go_roundw
        case rel => exact ⟨k + 1, by omega, by go_num, H3⟩
        case measure => simp [intOf]; omega
      · have hd : decide (y ∈ ys) = false := by simpa using hm
        have HD := Lib.hid hd
        rw [hd]
        clear hd hm
        go_wp2_with fail
        refine (put1_in HC.out y (by omega)).mono ?_
        rintro e w3 ⟨v3, rfl, h3, hb3⟩
        have H3 : Hid (SliceI w3 v3 (refSort ((xs.take (k + 1)).filter (fun x => !decide (x ∈ ys)))) ∧ Below w.heap.size w w3) := ⟨by rw [HTS.out, if_pos HD.out]; exact h3, HBl.out.trans (Below.to hb3 HBl.out.size)⟩
        clear h3 hb3
        go_wp2
        go_roundw
        case rel => exact ⟨k + 1, by omega, by go_num, H3⟩
        case measure => simp [intOf]; omega
    · have hlt : ¬ (k : Int) < (na : Int) := by omega
      have hts : xs.take k = xs := List.take_of_length_le (by have := HN.out; omega)
      have HTS := Lib.hid hts
      clear hts
      go_wp2
      go_ret
      exact ⟨_, rfl, ⟨A1, n1, c1, rfl, by have := HC.out; rw [HTS.out] at this; exact this⟩, HBl.out⟩

end Go.Proofs.YtieahneoofdneaaDoor
