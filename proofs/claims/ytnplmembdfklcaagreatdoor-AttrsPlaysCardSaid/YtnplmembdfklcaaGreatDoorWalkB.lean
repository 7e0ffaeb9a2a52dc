/-
  Globs: the document's walk. Helper text; the conditions are those typed.
-/
import Derived.Test.YtnplmembdfklcaaGreatDoorWalkA
import Derived.Laws.MakeOwn
import Derived.Laws.OwnMore
import Derived.BigRegion
import Derived.RegionTactic
import Derived.Deep.RegionHeld3
import Derived.Test.YtnplmembdfklcaaGreatDoorQuietTail
namespace Go.Proofs.YtnplmembdfklcaaGreatDoor
set_option linter.unusedVariables false
set_option linter.unusedSimpArgs false
open Go.RowKit

theorem info4 : (Tryz.prog.info? 4).map (fun i => (i.zero, i.size, i.bytes)) = some (some (.bool false), 1, 1) := by kernel_rfl
theorem mk_bools (n : Nat) (hn : n ≤ 140737488355328) (w : World) : (Instr.makeSlice 140 (.int .i64 (n : Int)) (.int .i64 (n : Int))).run Tryz.prog w = .ok (.slice (some ⟨w.heap.size, 0, none⟩) n n) (w.alloc (.cells (Array.replicate n (.bool false)) 4)) := by
  obtain ⟨i, hi, h0, h1, h2⟩ := info_parts info4
  have := run_make (P := Tryz.prog) w 140 4 i (.bool false) Tryz.underlying140 hi h0 .i64 .i64 (n : Int) (n : Int) (by omega) (Int.le_refl _) (by rw [h2]; omega) (by omega)
  rw [Int.toNat_natCast, h1, Nat.mul_one] at this
  have e : madeCells (Value.bool false).cells n = Array.replicate n (.bool false) := by
    have := toList_madeCells_one (.bool false) n
    have h2 : (madeCells #[.bool false] n).toList = (Array.replicate n (Value.bool false)).toList := by rw [this]; simp
    exact Array.toList_inj.1 h2
  rw [e] at this
  exact this
theorem take_get (l : List UInt8) (i : Nat) (h : i < l.length) : l.take (i + 1) = l.take i ++ [l[i]] := by rw [List.take_succ_eq_append_getElem h]

/-- a row of the table -/
def rowG (p s : List UInt8) (i : Nat) : Nat → Value := fun j => .bool (G (p.take i) (s.take j))
/-- a row that is being filled -/
def rowH (p s : List UInt8) (i k : Nat) : Nat → Value := fun j => .bool (if j < k then G (p.take i) (s.take j) else false)
theorem rowG_zero (p s : List UInt8) : ∀ j, j < s.length + 1 → (if j = 0 then Value.bool true else .bool false) = rowG p s 0 j := by
  intro j hj
  unfold rowG
  rw [List.take_zero]
  cases j with
  | zero => rfl
  | succ j =>
    rw [if_neg (by omega)]
    cases s with
    | nil => simp at hj
    | cons a s => rfl
theorem rowH_step {p s : List UInt8} {i k : Nat} {b : Bool} (h : G (p.take i) (s.take k) = b) : ∀ j, (if j = k then Value.bool b else rowH p s i k j) = rowH p s i (k + 1) j := by
  intro j
  unfold rowH
  by_cases e : j = k
  · subst e
    rw [if_pos rfl, if_pos (by omega), h]
  · rw [if_neg e]
    by_cases e2 : j < k
    · rw [if_pos e2, if_pos (by omega)]
    · rw [if_neg e2, if_neg (by omega)]

set_option maxHeartbeats 4000000 in
set_option maxRecDepth 100000 in
theorem rglob_c (p s : ByteArray) (hp : p.size ≤ maxLen) (hs : s.size ≤ 140737488355327) (w : World) :
    Calls Tryz.prog 72 #[.string p, .string s] w fun e w' => e = .returned (.bool (G (bs p) (bs s))) ∧ Below w.heap.size w w' := by
  replace hp : p.size ≤ 9223372036854775807 := Nat.le_trans hp (by decide)
  obtain ⟨N, hN⟩ : ∃ N, s.size + 1 = N := ⟨_, rfl⟩
  have hN2 : (s.size : Int) + 1 = (N : Int) := by omega
  have hmk : ∀ w, (Instr.makeSlice 140 (.int .i64 ((s.size : Int) + 1)) (.int .i64 ((s.size : Int) + 1))).run Tryz.prog w = .ok (.slice (some ⟨w.heap.size, 0, none⟩) N N) (w.alloc (.cells (Array.replicate N (.bool false)) 4)) := fun w => by
    rw [hN2]
    exact mk_bools N (by omega) w
  have hN0 : (0 : Int) < (N : Int) := by omega
  have HN2 := Lib.hid hN2
  have HN := Lib.hid hN
  clear hN2 hN
  obtain ⟨w1, e1⟩ : ∃ w1, w.alloc (.cells (Array.replicate N (.bool false)) 4) = w1 := ⟨_, rfl⟩
  have HB1 : Hid (BoxF w1 w.heap.size N (fun _ => .bool false) 4 ∧ Below w.heap.size w w1) := by
    rw [← e1]
    exact ⟨boxF_alloc _ _ _ _, below1 _ _⟩
  have c0 : w1.cell? ⟨w.heap.size, 0, none⟩ = some _ := HB1.out.1.cell (by omega)
  have f0 : w1.frozen? ⟨w.heap.size, 0, none⟩ = false := HB1.out.1.frozen 0
  go_enter Tryz.func72, Tryz.ntmps72
  go_wp2_with fail
  have HT1 : Hid (BoxF (w1.setCell ⟨w.heap.size, 0, none⟩ (.bool true)) w.heap.size N (rowG (bs p) (bs s) 0) 4 ∧ Below w.heap.size w (w1.setCell ⟨w.heap.size, 0, none⟩ (.bool true))) :=
    ⟨(HB1.out.1.set 0 (.bool true)).congr (fun j hj => rowG_zero _ _ j (by rw [bs_len]; have := HN.out; omega)), below_sc HB1.out.2 (Nat.le_refl _) _ _⟩
  clear c0 f0 e1 HB1
  go_loopw [5, 6] (fun vc vi wr => ∃ (b i : Nat), vc = .slice (some ⟨b, 0, none⟩) N N ∧ vi = .int .i64 i ∧ i ≤ p.size ∧ w.heap.size ≤ b ∧ Hid (BoxF wr b N (rowG (bs p) (bs s) i) 4 ∧ Below w.heap.size w wr)) (fun _ vi _ => p.size - (intOf vi).toNat)
  case atStart => exact ⟨w.heap.size, 0, rfl, rfl, Nat.zero_le _, Nat.le_refl _, HT1.out⟩
  case round =>
    obtain ⟨b, i, rfl, rfl, hip, hbw, HT⟩ := hrel
    clear HT1
    by_cases hi : i < p.size
    · have hi1 : (i : Int) < (p.size : Int) := by omega
      have hi0 : (0 : Int) ≤ (i : Int) := by omega
      obtain ⟨wo, rfl⟩ : ∃ wo : World, wo = wr := ⟨_, rfl⟩
      obtain ⟨w2, e2⟩ : ∃ w2, wo.alloc (.cells (Array.replicate N (.bool false)) 4) = w2 := ⟨_, rfl⟩
      obtain ⟨b', hb'⟩ : ∃ b', wo.heap.size = b' := ⟨_, rfl⟩
      have HB2 : Hid (BoxF w2 b N (rowG (bs p) (bs s) i) 4 ∧ BoxF w2 b' N (rowH (bs p) (bs s) (i + 1) 0) 4 ∧ Below w.heap.size w w2 ∧ b < b') := by
        have h1 := HT.out.1.lt
        rw [← e2, ← hb']
        exact ⟨HT.out.1.below (below1 _ _), (boxF_alloc _ _ _ _).congr (fun j _ => rfl), below_tr HT.out.2 (below1 _ _), h1⟩
      clear HT
      have hmk2 : (Instr.makeSlice 140 (.int .i64 ((s.size : Int) + 1)) (.int .i64 ((s.size : Int) + 1))).run Tryz.prog wo = .ok (.slice (some ⟨b', 0, none⟩) N N) w2 := by
        rw [hmk wo, hb', e2]
      replace hmk := Lib.hid hmk
      replace hb' := Lib.hid hb'
      replace e2 := Lib.hid e2
      go_wp2_with fail
      clear hmk2
      go_loopw [8] (fun vk wr => ∃ k : Nat, vk = .int .i64 k ∧ k ≤ N ∧ Hid (BoxF wr b N (rowG (bs p) (bs s) i) 4 ∧ BoxF wr b' N (rowH (bs p) (bs s) (i + 1) k) 4 ∧ Below w.heap.size w wr)) (fun vk _ => N - (intOf vk).toNat)
      case atStart => exact ⟨0, rfl, Nat.zero_le _, HB2.out.1, HB2.out.2.1, HB2.out.2.2.1⟩
      case round =>
        obtain ⟨k, rfl, hkN, HW⟩ := hrel
        have hbb : Hid (b < b') := HB2.out.2.2.2
        by_cases hk : k < N
        · have hk1 : (k : Int) < (N : Int) := by omega
          have hk2 : (k : Int) ≤ (s.size : Int) := by have := HN.out; omega
          have hk0 : (0 : Int) ≤ (k : Int) := by omega
          have q0 : wr.cell? ⟨b, k, none⟩ = some (.bool (G ((bs p).take i) ((bs s).take k))) := HW.out.1.cell hk
          have HTK := Lib.hid (take_get (bs p) i (by rw [bs_len]; exact hi))
          have y0 : wr.frozen? ⟨b', k, none⟩ = false := HW.out.2.1.frozen k
          have y1 : wr.cell? ⟨b', k, none⟩ = some (.bool false) := by
            have := HW.out.2.1.cell hk
            rw [this]
            unfold rowH
            rw [if_neg (Nat.lt_irrefl _)]
          have HST : Hid (∀ x W, G ((bs p).take (i + 1)) ((bs s).take k) = x → W.heap = (wr.setCell ⟨b', k, none⟩ (.bool x)).heap → Below w.heap.size w W → BoxF W b N (rowG (bs p) (bs s) i) 4 ∧ BoxF W b' N (rowH (bs p) (bs s) (i + 1) (k + 1)) 4 ∧ Below w.heap.size w W) := by
            intro x W hx hW hB
            have h1 := HW.out.1.other (c := b') (by have := hbb.out; omega) k (.bool x)
            have h2 := (HW.out.2.1.set k (.bool x)).congr (fun j _ => rowH_step hx j)
            exact ⟨h1.to (by rw [hW]), h2.to (by rw [hW]), hB⟩
          have HBB : Hid (w.heap.size ≤ b' ∧ Below w.heap.size w wr) := ⟨by have := hbb.out; omega, HW.out.2.2⟩
          by_cases h42 : (p[i]'hi) = 42
          · have t42 : (((p[i]'hi).toNat : Int) == 42) = true := by rw [h42]; rfl
            have hpi : (bs p)[i]'(by rw [bs_len]; exact hi) = 42 := h42
            rw [hpi] at HTK
            replace hpi := Lib.hid hpi
            replace h42 := Lib.hid h42
            cases hc : G ((bs p).take i) ((bs s).take k) with
            | true =>
              rw [hc] at q0
              have hV : G ((bs p).take (i + 1)) ((bs s).take k) = true := by
                rw [HTK.out]
                exact G_append.2 ⟨_, [], by simp, hc, rfl⟩
              have HX := Lib.hid (HST.out true (wr.setCell ⟨b', k, none⟩ (.bool true)) hV rfl (below_sc HBB.out.2 HBB.out.1 _ _))
              replace hc := Lib.hid hc
              replace hV := Lib.hid hV
              clear HST HW
              go_wp2_with fail
              go_roundw
              case rel => exact ⟨k + 1, by go_num, by omega, HX.out⟩
              case measure => simp [intOf]; omega
            | false =>
              rw [hc] at q0
              by_cases hk3 : 0 < k
              · have hq : k - 1 < N := by omega
                have q1 : wr.cell? ⟨b', k - 1, none⟩ = some (.bool (G ((bs p).take (i + 1)) ((bs s).take (k - 1)))) := by
                  rw [HW.out.2.1.cell hq]
                  unfold rowH
                  rw [if_pos (by omega)]
                have hV : G ((bs p).take (i + 1)) ((bs s).take k) = G ((bs p).take (i + 1)) ((bs s).take (k - 1)) := by
                  have h1 := G_snoc_star (q := (bs p).take i) (s := bs s) (k := k - 1) (by rw [bs_len]; have := HN.out; omega)
                  rw [show k - 1 + 1 = k by omega, hc, Bool.false_or] at h1
                  rw [HTK.out]
                  exact h1
                generalize G ((bs p).take (i + 1)) ((bs s).take (k - 1)) = x at q1 hV
                have HX := Lib.hid (HST.out x (wr.setCell ⟨b', k, none⟩ (.bool x)) hV rfl (below_sc HBB.out.2 HBB.out.1 _ _))
                have hk4 : (0 : Int) < (k : Int) := by omega
                have hk5 : (0 : Int) ≤ (k : Int) - 1 := by omega
                have hk6 : (k : Int) - 1 < (N : Int) := by omega
                have hd : decide (0 < k) = true := decide_eq_true hk3
                replace hc := Lib.hid hc
                replace hV := Lib.hid hV
                clear HST HW
                go_wp2_with fail
                go_roundw
                case rel => exact ⟨k + 1, by go_num, by omega, HX.out⟩
                case measure => simp [intOf]; omega
              · obtain rfl : k = 0 := by omega
                have hV : G ((bs p).take (i + 1)) ((bs s).take 0) = false := by
                  rw [HTK.out, G_snoc_star0]
                  exact hc
                have HX := Lib.hid (HST.out false (wr.setCell ⟨b', 0, none⟩ (.bool false)) hV rfl (below_sc HBB.out.2 HBB.out.1 _ _))
                replace hc := Lib.hid hc
                replace hV := Lib.hid hV
                clear HST HW
                go_wp2_with fail
                go_roundw
                case rel => exact ⟨0 + 1, by go_num, by omega, HX.out⟩
                case measure => simp [intOf]; omega
          · have t42 : (((p[i]'hi).toNat : Int) == 42) = false := by
              rw [beq_eq_false_iff_ne]
              intro e
              exact h42 (UInt8.toNat_inj.1 (by show (p[i]'hi).toNat = 42; omega))
            have hpi : (bs p)[i]'(by rw [bs_len]; exact hi) ≠ 42 := h42
            by_cases hk3 : 0 < k
            · have hks : k - 1 < s.size := by have := HN.out; omega
              have hq : k - 1 < N := by omega
              have q1 : wr.cell? ⟨b, k - 1, none⟩ = some (.bool (G ((bs p).take i) ((bs s).take (k - 1)))) := HW.out.1.cell hq
              have hV : ∀ x, (G ((bs p).take i) ((bs s).take (k - 1)) && ((p[i]'hi) == 63 || (p[i]'hi) == (s[k - 1]'hks))) = x → G ((bs p).take (i + 1)) ((bs s).take k) = x := by
                intro x hx
                have h1 := G_snoc_lit (q := (bs p).take i) (s := bs s) (k := k - 1) hpi (by rw [bs_len]; exact hks)
                rw [show k - 1 + 1 = k by omega] at h1
                rw [HTK.out, h1]
                exact hx
              generalize G ((bs p).take i) ((bs s).take (k - 1)) = c at q1 hV
              have hk4 : (0 : Int) < (k : Int) := by omega
              have hk5 : (0 : Int) ≤ (k : Int) - 1 := by omega
              have hk6 : (k : Int) - 1 < (N : Int) := by omega
              have hk7 : (k : Int) - 1 < (s.size : Int) := by omega
              have hkn : ((k : Int) - 1).toNat = k - 1 := by omega
              have a1 : (1 : Int) ≤ (k : Int) := by omega
              have a2 : 1 ≤ k := hk3
              have a3 : (k : Int) < (N : Int) + 1 := by omega
              have a4 : (k : Int) < (s.size : Int) + 1 := by omega
              have hwk : IntKind.i64.wrap ((k : Int) - 1) = (k : Int) - 1 := IntWalk.i64_in _ (by omega)
              have hd : decide (0 < k) = true := decide_eq_true hk3
              replace HTK := Lib.hid HTK.out
              replace hpi := Lib.hid hpi
              replace h42 := Lib.hid h42
              cases c with
              | false =>
                have HX := Lib.hid (HST.out false (wr.drew.setCell ⟨b', k, none⟩ (.bool false)) (hV false rfl) rfl (below_sc (below_dr1 HBB.out.2) HBB.out.1 _ _))
                clear HST HW hV
                go_upto_region 12 with fail
                refine wp_quiet_tail 28 (by kernel_rfl) (by kernel_rfl) ?_
                intro wd hwd
                have q2 : wd.cell? ⟨b, k - 1, none⟩ = _ := (cell_heap (by rw [hwd.out]; rfl) _).trans q1
                simp only [List.take_succ_cons, List.take_zero, List.drop_succ_cons, List.drop_zero]
                repeat (go_big_quiet_step (fail))
                refine wpQuiet_nil ?_
                rw [hwd.out]
                clear q2 hwd wd
                go_wp2_with fail
                go_roundw
                case rel => exact ⟨k + 1, by go_num, by omega, HX.out⟩
                case measure => simp [intOf]; omega
              | true =>
                by_cases h63 : (p[i]'hi) = 63
                · have t63 : (((p[i]'hi).toNat : Int) == 63) = true := by rw [h63]; rfl
                  have HX := Lib.hid (HST.out true (wr.drew.setCell ⟨b', k, none⟩ (.bool true)) (hV true (by simp [h63])) rfl (below_sc (below_dr1 HBB.out.2) HBB.out.1 _ _))
                  replace h63 := Lib.hid h63
                  clear HST HW hV
                  go_upto_region 12 with fail
                  refine wp_quiet_tail 28 (by kernel_rfl) (by kernel_rfl) ?_
                  intro wd hwd
                  have q2 : wd.cell? ⟨b, k - 1, none⟩ = _ := (cell_heap (by rw [hwd.out]; rfl) _).trans q1
                  simp only [List.take_succ_cons, List.take_zero, List.drop_succ_cons, List.drop_zero]
                  repeat (go_big_quiet_step (fail))
                  refine wpQuiet_nil ?_
                  rw [hwd.out]
                  clear q2 hwd wd
                  go_wp2_with fail
                  go_roundw
                  case rel => exact ⟨k + 1, by go_num, by omega, HX.out⟩
                  case measure => simp [intOf]; omega
                · have t63 : (((p[i]'hi).toNat : Int) == 63) = false := by
                    rw [beq_eq_false_iff_ne]
                    intro e
                    exact h63 (UInt8.toNat_inj.1 (by show (p[i]'hi).toNat = 63; omega))
                  obtain ⟨bq, hbq⟩ : ∃ bq, (((p[i]'hi).toNat : Int) == ((s[k - 1]'hks).toNat : Int)) = bq := ⟨_, rfl⟩
                  have hbq2 : ((p[i]'hi) == (s[k - 1]'hks)) = bq := by
                    rw [← hbq, Bool.eq_iff_iff, beq_iff_eq, beq_iff_eq]
                    constructor
                    · intro h; rw [h]
                    · intro h; exact UInt8.toNat_inj.1 (by omega)
                  have HX := Lib.hid (HST.out bq (wr.drew.setCell ⟨b', k, none⟩ (.bool bq)) (hV bq (by rw [hbq2]; simp [h63])) rfl (below_sc (below_dr1 HBB.out.2) HBB.out.1 _ _))
                  replace h63 := Lib.hid h63
                  replace hbq2 := Lib.hid hbq2
                  clear HST HW hV
                  go_upto_region 12 with fail
                  refine wp_quiet_tail 28 (by kernel_rfl) (by kernel_rfl) ?_
                  intro wd hwd
                  have q2 : wd.cell? ⟨b, k - 1, none⟩ = _ := (cell_heap (by rw [hwd.out]; rfl) _).trans q1
                  simp only [List.take_succ_cons, List.take_zero, List.drop_succ_cons, List.drop_zero]
                  repeat (go_big_quiet_step (fail))
                  refine wpQuiet_nil ?_
                  rw [hwd.out]
                  clear q2 hwd wd
                  go_wp2_with fail
                  go_roundw
                  case rel => exact ⟨k + 1, by go_num, by omega, HX.out⟩
                  case measure => simp [intOf]; omega
            · obtain rfl : k = 0 := by omega
              have hV : G ((bs p).take (i + 1)) ((bs s).take 0) = false := by
                rw [HTK.out]
                exact G_snoc_lit0 hpi
              have HX := Lib.hid (HST.out false (wr.drew.setCell ⟨b', 0, none⟩ (.bool false)) hV rfl (below_sc (below_dr1 HBB.out.2) HBB.out.1 _ _))
              replace hV := Lib.hid hV
              replace HTK := Lib.hid HTK.out
              replace hpi := Lib.hid hpi
              replace h42 := Lib.hid h42
              clear HST HW
              go_upto_region 12 with fail
              refine wp_quiet_tail 28 (by kernel_rfl) (by kernel_rfl) ?_
              intro wd hwd
              simp only [List.take_succ_cons, List.take_zero, List.drop_succ_cons, List.drop_zero]
              repeat (go_big_quiet_step (fail))
              refine wpQuiet_nil ?_
              rw [hwd.out]
              clear hwd wd
              go_wp2_with fail
              go_roundw
              case rel => exact ⟨0 + 1, by go_num, by omega, HX.out⟩
              case measure => simp [intOf]; omega
        · have hk1 : ¬ (k : Int) ≤ (s.size : Int) := by have := HN.out; omega
          obtain rfl : k = N := by omega
          have HX : Hid (BoxF wr b' k (rowG (bs p) (bs s) (i + 1)) 4 ∧ Below w.heap.size w wr) :=
            ⟨HW.out.2.1.congr (fun j hj => by unfold rowH rowG; rw [if_pos hj]), HW.out.2.2⟩
          have HBX : Hid (w.heap.size ≤ b') := by have := hbb.out; show w.heap.size ≤ b'; omega
          clear HW
          go_wp2_with fail
          go_roundw
          case rel => exact ⟨b', i + 1, rfl, by go_num, by omega, HBX.out, HX.out⟩
          case measure => simp [intOf]; omega
    · have hi1 : ¬ (i : Int) < (p.size : Int) := by omega
      obtain rfl : i = p.size := by omega
      have hsz1 : (s.size : Int) < (N : Int) := by have := HN.out; omega
      have hsz0 : (0 : Int) ≤ (s.size : Int) := by omega
      have c1 : wr.cell? ⟨b, s.size, none⟩ = some (.bool (G (bs p) (bs s))) := by
        have := HT.out.1.cell (j := s.size) (by have := HN.out; omega)
        rw [this]
        unfold rowG
        rw [List.take_of_length_le (by rw [bs_len]; exact Nat.le_refl _), List.take_of_length_le (by rw [bs_len]; exact Nat.le_refl _)]
      go_wp2_with fail
      go_ret
      exact ⟨rfl, HT.out.2⟩
end Go.Proofs.YtnplmembdfklcaaGreatDoor
