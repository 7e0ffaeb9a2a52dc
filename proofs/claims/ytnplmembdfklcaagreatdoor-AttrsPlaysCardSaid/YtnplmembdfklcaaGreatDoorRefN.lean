/-
  The document's Schemas: the walk. Helper text; the conditions are those typed.
-/
import Derived.Test.YtnplmembdfklcaaGreatDoorRefM
import Derived.Test.YtnplmembdfklcaaGreatDoorRefG
namespace Go.Proofs.YtnplmembdfklcaaGreatDoor
set_option linter.unusedVariables false
set_option linter.unusedSimpArgs false
open Go.RowKit Go.Maps

open Classical in
/-- How many unlike ones there are. -/
noncomputable def cntR : List (List ByteArray) → Nat
  | [] => 0
  | x :: l => cntR l + if x ∈ l then 0 else 1
noncomputable def unlike (xs : List (List ByteArray)) : Nat := cntR xs.reverse
open Classical in
theorem unlike_step (xs : List (List ByteArray)) {i : Nat} (hi : i < xs.length) : unlike (xs.take (i + 1)) = unlike (xs.take i) + if xs[i] ∈ xs.take i then 0 else 1 := by
  unfold unlike
  rw [List.take_succ_eq_append_getElem hi, List.reverse_append]
  show cntR (xs[i] :: (xs.take i).reverse) = _
  rw [cntR]
  simp only [List.mem_reverse]
open Classical in
theorem cntR_le : ∀ l : List (List ByteArray), cntR l ≤ l.length
  | [] => Nat.le_refl _
  | x :: l => by
    have := cntR_le l
    unfold cntR
    rw [List.length_cons]
    split <;> omega
/-- The numbers of packages, rising. -/
def rids (l : List KeptT) : List Int := l.foldl (fun o p => put1 o p.id) []
theorem rids_step (l : List KeptT) {i : Nat} (hi : i < l.length) : rids (l.take (i + 1)) = put1 (rids (l.take i)) l[i].id := by
  unfold rids
  rw [List.take_succ_eq_append_getElem hi, List.foldl_append]
  rfl
theorem rids_len (l : List KeptT) : ∀ i, (rids (l.take i)).length ≤ i
  | 0 => by simp [rids]
  | i + 1 => by
    have ih := rids_len l i
    by_cases hi : i < l.length
    · rw [rids_step l hi]
      have := put1_length (rids (l.take i)) l[i].id
      omega
    · have e : l.take (i + 1) = l.take i := by rw [List.take_of_length_le (by omega), List.take_of_length_le (by omega)]
      rw [e]
      omega
noncomputable def rschemas (l : List KeptT) : Nat := unlike ((rids l).map (rschema l))

section
open Classical
variable {w : World} {B : Nat} {role : Nat → Role} {M : Nat} {vL vK vN vD : Value} {rt : RefT}
set_option maxHeartbeats 8000000 in
set_option maxRecDepth 100000 in
theorem rschemas_c (h : RefIn w B role M vL vK vN vD rt) (hB : B ≤ w.heap.size) (hsz : rt.l.length ≤ 4194304) :
    Calls Tryz.prog 12 #[.pointer (some ⟨M, 0, none⟩)] w fun e w' => e = .returned (.int .i64 (rschemas rt.l : Nat)) ∧ Below w.heap.size w w' := by
  have HBR := Lib.hid (Below.refl w.heap.size w)
  obtain ⟨va, vc, hvL⟩ := ownsRow_slice h.l
  have HH := Lib.hid h
  have HB := Lib.hid hB
  have HSZ := Lib.hid hsz
  obtain ⟨R, hR⟩ : ∃ R, rschemas rt.l = R := ⟨_, rfl⟩
  rw [hR]
  have HRR := Lib.hid hR
  obtain ⟨N, hN⟩ : ∃ N, rt.l.length = N := ⟨_, rfl⟩
  rw [hN] at hsz hvL
  have HN := Lib.hid hN
  have HvL := Lib.hid hvL
  clear h hB hN hvL hR
  go_enter Tryz.func12, Tryz.ntmps12
  go_wp2_with fail
  go_loopw [3, 4] (fun v3 v4 wr => ∃ i a n c, v4 = .int .i64 (i : Nat) ∧ v3 = .slice a n c ∧ i ≤ N ∧ Hid (CutI wr a n c (rids (rt.l.take i))) ∧ Hid (Below w.heap.size w wr)) (fun _ v4 _ => N - (intOf v4).toNat)
  case atStart => exact ⟨0, none, 0, 0, rfl, rfl, Nat.zero_le _, ⟨by simp [rids], .inl (by simp [rids]), Nat.le_refl _, by decide⟩, HBR⟩
  case round =>
    obtain ⟨i, a, n, c, rfl, rfl, hi, HC, HBL⟩ := hrel
    have HR := Lib.hid (HH.out.below HB.out HBL.out)
    have c2 := HR.out.box.cell (j := 0) rfl
    rw [HvL.out] at c2
    by_cases hlt : i < N
    · have hi1 : (i : Int) < (N : Int) := by omega
      have hil : i < rt.l.length := by have := HN.out; show i < rt.l.length; omega
      obtain ⟨g, cap, hg, hcells⟩ := HR.out.kept hil
      rw [HvL.out] at hg
      injection hg with hg1 hg2 hg3
      clear hg2
      subst hg1 hg3
      have HST := Lib.hid (rids_step rt.l hil)
      have hnl := HC.out.len (rids_len rt.l i)
      have k0 : wr.cell? ⟨g, i * 6, none⟩ = some (.int .i64 rt.l[i].id) := hcells 0 (by omega)
      have HP := Lib.hid (put1_in HC.out rt.l[i].id (by omega))
      generalize rt.l[i].id = pid at k0 HP HST
      clear hcells
      go_wp2_with (go_at_call 32; refine HP.out.mono ?_; rintro e w6 ⟨v6, rfl, ⟨a6, n6, c6, rfl, hs6⟩, hb6⟩)
      go_roundw
      case rel => exact ⟨i + 1, a6, n6, c6, by go_num, rfl, by omega, by rw [Hid, HST.out]; exact hs6, below_tr HBL.out hb6⟩
      case measure => simp [intOf]; omega
    · have hi1 : ¬ (i : Int) < (N : Int) := by omega
      have HCA : Hid (CutI wr a n c (rids rt.l)) := by
        have := HC.out
        rw [List.take_of_length_le (by have := HN.out; omega)] at this
        exact this
      have hn1 : n ≤ 4194304 := by
        have h1 := rids_len rt.l i
        rw [List.take_of_length_le (by have := HN.out; omega)] at h1
        have := HCA.out.len h1
        omega
      have HLN : Hid (n = (rids rt.l).length) := HCA.out.1
      obtain ⟨wo, rfl⟩ : ∃ x : World, x = wr := ⟨_, rfl⟩
      have HRN : Hid (unlike (((rids rt.l).map (rschema rt.l)).take n) = R) := by
        rw [Hid, List.take_of_length_le (by rw [List.length_map]; exact Nat.le_of_eq HLN.out.symm)]
        exact HRR.out
      generalize rids rt.l = all at *
      clear HC hlt hi
      go_wp2_with fail
      go_loopw [5, 6, 7, 8, 9] (fun v5 v6 v7 v8 v9 wr => ∃ i m : Nat, v5 = .int .i64 m ∧ v6 = .int .i64 i ∧ i ≤ n ∧ m ≤ i ∧ Hid (m = unlike ((all.map (rschema rt.l)).take i)) ∧ Hid (Below wo.heap.size wo wr)) (fun _ v6 _ _ _ _ => n - (intOf v6).toNat)
      case atStart => exact ⟨0, 0, rfl, rfl, Nat.zero_le _, Nat.le_refl _, rfl, Below.refl _ _⟩
      case round =>
        obtain ⟨i, m, rfl, rfl, hi, hmi, HM, HBL2⟩ := hrel
        by_cases hlt : i < n
        · have hi1 : (i : Int) < (n : Int) := by omega
          have hil : i < all.length := by have := HLN.out; omega
          obtain ⟨w1, rfl⟩ : ∃ x : World, x = wr := ⟨_, rfl⟩
          obtain ⟨ab, ao, ha, _⟩ := HCA.out.2.1.cell hil
          subst ha
          have HAL : Hid (ab < wo.heap.size ∧ ∀ W : World, W.heap[ab]? = wo.heap[ab]? → ∀ k (hk : k < all.length), W.cell? ⟨ab, ao + k, none⟩ = some (.int .i64 all[k])) := by
            have hcc : ∀ k (hk : k < all.length), wo.cell? ⟨ab, ao + k, none⟩ = some (.int .i64 all[k]) := fun k hk => by
              obtain ⟨b', o', e', hc'⟩ := HCA.out.2.1.cell hk
              cases e'
              exact hc'
            exact ⟨World.block_lt_of_cell? wo _ (hcc i hil), fun W hW k hk => cell_blk hW (hcc k hk)⟩
          obtain ⟨X, hX⟩ : ∃ X, rschema rt.l all[i] = X := ⟨_, rfl⟩
          have HX := Lib.hid hX
          have HUS := Lib.hid (unlike_step (all.map (rschema rt.l)) (i := i) (by rw [List.length_map]; exact hil))
          have HF0 : Hid (true = decide (¬ X ∈ (all.map (rschema rt.l)).take 0)) := by simp [Hid]
          clear hX
          go_wp2_with fail
          go_loopw [7, 8, 9] (fun v7 v8 v9 wr => ∃ (k : Nat) (f : Bool), v7 = .bool f ∧ v8 = .int .i64 k ∧ k ≤ i ∧ Hid (f = decide (¬ X ∈ (all.map (rschema rt.l)).take k)) ∧ Hid (Below w1.heap.size w1 wr)) (fun _ v8 _ _ => i - (intOf v8).toNat)
          case atStart => exact ⟨0, true, rfl, rfl, Nat.zero_le _, HF0, Below.refl _ _⟩
          case round =>
            obtain ⟨k, f, rfl, rfl, hk, HF, HBL3⟩ := hrel
            by_cases hklt : k < i
            · have hk1 : (k : Int) < (i : Int) := by omega
              have hkl : k < all.length := by omega
              have hkn : k < n := by omega
              have HB13 : Hid (Below wo.heap.size wo wr) := below_tr HBL2.out HBL3.out
              have HABR : Hid (ab < wr.heap.size ∧ wr.heap[ab]? = wo.heap[ab]?) := ⟨Nat.lt_of_lt_of_le HAL.out.1 HB13.out.size, HB13.out.block _ HAL.out.1⟩
              have HC2 : Hid (∀ W : World, W.heap[ab]? = wr.heap[ab]? → W.cell? ⟨ab, ao + k, none⟩ = some (.int .i64 all[k]) ∧ W.cell? ⟨ab, ao + i, none⟩ = some (.int .i64 all[i])) := fun W hW => ⟨HAL.out.2 W (hW.trans HABR.out.2) k hkl, HAL.out.2 W (hW.trans HABR.out.2) i hil⟩
              obtain ⟨ik, hik⟩ : ∃ ik, all[k] = ik := ⟨_, rfl⟩
              obtain ⟨ii, hii⟩ : ∃ ii, all[i] = ii := ⟨_, rfl⟩
              have HXE : Hid (rschema rt.l ii = X ∧ (all.map (rschema rt.l))[k]'(by rw [List.length_map]; exact hkl) = rschema rt.l ik) := by
                refine ⟨by rw [← hii]; exact HX.out, ?_⟩
                rw [List.getElem_map, hik]
              rw [hik, hii] at HC2
              have HSC : Hid (∀ W id, Below wr.heap.size wr W → Calls Tryz.prog 29 #[.pointer (some ⟨M, 0, none⟩), .int .i64 id] W (RSchPost rt.l id W)) := fun W id hb => rschema_c (HH.out.below HB.out (below_tr HBL.out (below_tr HB13.out hb))) (Nat.le_trans HB.out (below_tr HBL.out (below_tr HB13.out hb)).size) HSZ.out id
              have HMEM : Hid (∀ Y, rschema rt.l ik = Y → (X ∈ (all.map (rschema rt.l)).take (k + 1) ↔ (X ∈ (all.map (rschema rt.l)).take k ∨ Y = X))) := fun Y hY => by
                rw [List.take_succ_eq_append_getElem (by rw [List.length_map]; exact hkl), List.mem_append, List.mem_singleton, HXE.out.2, hY]
                exact ⟨fun h => h.imp id Eq.symm, fun h => h.imp id Eq.symm⟩
              clear hik hii
              go_upto_region 14 with fail
              refine Two.wp_region_ord2 (fun W => W.heap[ab]? = wr.heap[ab]?) (fun _ => True) 13 13 [(.qb, 0), (.qb, 1), (.qb, 2), (.qb, 3), (.qa, 4), (.qb, 6), (.qb, 7), (.qb, 8), (.qb, 9), (.qa, 10), (.l0, 5), (.l0, 11), (.l0, 12), (.l2, 13)] (by kernel_rfl) (by kernel_rfl) (fun _ _ d _ _ h => by cases d <;> exact h) rfl trivial ?_
              intro wd hwd hS hS2
              simp only [Two.ordOps2, List.map_cons, List.map_nil, Array.getD_eq_getD_getElem?, List.getElem?_toArray, List.getElem?_cons_succ, List.getElem?_cons_zero, Option.getD_some]
              have HBd : Hid (Below wr.heap.size wr wd) := by rw [hwd.out]; exact (Below.refl _ _).drew
              iterate 4 (refine Two.step_qb rfl _ (fun w' hS' K hK => (by clear hS'; go_simp; exact hK)) (fun K hK => ?_); go_simp; refine hK _ ?_; clear hK K)
              refine Two.step_qa rfl _ (fun w' hS' K hK => (by have q1 := (HC2.out w' hS').1; clear hS'; go_simp; exact hK)) (fun K hK => ?_); go_simp; refine hK _ ?_; clear hK K
              iterate 4 (refine Two.step_qb rfl _ (fun w' hS' K hK => (by clear hS'; go_simp; exact hK)) (fun K hK => ?_); go_simp; refine hK _ ?_; clear hK K)
              refine Two.step_qa rfl _ (fun w' hS' K hK => (by have q1 := (HC2.out w' hS').2; clear hS'; go_simp; exact hK)) (fun K hK => ?_); go_simp; refine hK _ ?_; clear hK K
              refine Two.step_l0 rfl (fun K hK => ?_)
              go_simp
              refine (HSC.out wd ik HBd.out).mono ?_
              rintro e w5 ⟨v5, rfl, ⟨a5, n5, c5, rfl, hs5⟩, hb5⟩
              have HS5 := Lib.hid hs5
              have HB5 : Hid (Below wr.heap.size wr w5) := below_tr HBd.out hb5
              refine hK _ _ ⟨⟨HB5.out.block _ HABR.out.1, trivial⟩, ?_⟩
              clear hK K hs5 hb5
              refine Two.step_l0 rfl (fun K hK => ?_)
              go_simp
              refine (HSC.out w5 ii HB5.out).mono ?_
              rintro e w6 ⟨v6, rfl, ⟨a6, n6, c6, rfl, hs6⟩, hb6⟩
              have HS6 := Lib.hid hs6
              have HS56 := Lib.hid (HS5.out.below hb6)
              have HB6 : Hid (Below wr.heap.size wr w6) := below_tr HB5.out hb6
              refine hK _ _ ⟨⟨HB6.out.block _ HABR.out.1, trivial⟩, ?_⟩
              clear hK K hs6 hb6
              have HSAME : Hid (Calls Tryz.prog 9 #[.slice a5 n5 c5, .slice a6 n6 c6] w6 fun e w' => e = .returned (.bool (decide (rschema rt.l ik = X))) ∧ Below w6.heap.size w6 w') := by
                have h1 := same_c w6 a5 a6 n5 n6 c5 c6 _ _ HS56.out.1.symm HS6.out.1.symm HS56.out.2.1 HS6.out.2.1 (Nat.le_trans HS56.out.2.2.1 HS56.out.2.2.2)
                rw [HXE.out.1] at h1
                refine h1.mono fun e w' h => ⟨h.1.trans ?_, h.2⟩
                congr 2
              obtain ⟨sm, hsm⟩ : ∃ sm, decide (rschema rt.l ik = X) = sm := ⟨_, rfl⟩
              rw [hsm] at HSAME
              have HSM := Lib.hid hsm
              clear hsm
              refine Two.step_l0 rfl (fun K hK => ?_)
              go_simp
              refine HSAME.out.mono ?_
              rintro e w7 ⟨rfl, hb7⟩
              have HB7 : Hid (Below wr.heap.size wr w7) := below_tr HB6.out hb7
              refine hK _ _ ⟨⟨HB7.out.block _ HABR.out.1, trivial⟩, ?_⟩
              clear hK K hb7
              refine Two.step_l2 rfl (fun K hK => ?_)
              go_simp
              refine hK _ _ ?_
              clear hK K
              refine Two.step_nil ?_
              have HFN : Hid ((if sm then false else f) = decide (¬ X ∈ (all.map (rschema rt.l)).take (k + 1))) := by
                have h1 := HMEM.out _ rfl
                have h2 := HF.out
                have h3 := HSM.out
                cases sm with
                | true =>
                  have h4 : rschema rt.l ik = X := of_decide_eq_true h3
                  exact (decide_eq_false (fun hn => hn (h1.2 (.inr h4)))).symm
                | false =>
                  have h4 : ¬ rschema rt.l ik = X := of_decide_eq_false h3
                  rw [if_neg (by decide), h2]
                  exact decide_eq_decide.2 ⟨fun h hn => h ((h1.1 hn).resolve_right h4), fun h hn => h (h1.2 (.inl hn))⟩
              have HB17 : Hid (Below w1.heap.size w1 w7) := below_tr HBL3.out HB7.out
              clear HSAME HS5 HS6 HS56 HB5 HB6 HB7 HSC HMEM HBd hwd hS hS2 HC2 HXE HF HSM HABR HB13
              cases sm with
              | true =>
                go_wp2_with fail
                go_roundw
                case rel => exact ⟨k + 1, false, rfl, by go_num, by omega, HFN, HB17⟩
                case measure => simp [intOf]; omega
              | false =>
                go_wp2_with fail
                go_roundw
                case rel => exact ⟨k + 1, f, rfl, by go_num, by omega, HFN, HB17⟩
                case measure => simp [intOf]; omega
            · have hk1 : ¬ (k : Int) < (i : Int) := by omega
              obtain rfl : i = k := by omega
              have HNX : Hid ((m + if f then 1 else 0) = unlike ((all.map (rschema rt.l)).take (i + 1)) ∧ Below wo.heap.size wo wr) := by
                refine ⟨?_, below_tr HBL2.out HBL3.out⟩
                rw [HUS.out, ← HM.out, List.getElem_map, HX.out]
                congr 1
                have h1 := HF.out
                by_cases e : X ∈ (all.map (rschema rt.l)).take i
                · rw [decide_eq_false (fun h => h e)] at h1
                  rw [h1, if_pos e]; rfl
                · rw [decide_eq_true e] at h1
                  rw [h1, if_neg e]; rfl
              clear HF HM HUS HX
              cases f with
              | true =>
                go_wp2_with fail
                go_roundw
                case rel => exact ⟨i + 1, m + 1, by go_num, by go_num, by omega, by omega, HNX.out.1, HNX.out.2⟩
                case measure => simp [intOf]; omega
              | false =>
                go_wp2_with fail
                go_roundw
                case rel => exact ⟨i + 1, m, rfl, by go_num, by omega, by omega, HNX.out.1, HNX.out.2⟩
                case measure => simp [intOf]; omega
        · have hi1 : ¬ (i : Int) < (n : Int) := by omega
          obtain rfl : n = i := by omega
          have HFIN : Hid (m = R ∧ Below w.heap.size w wr) := ⟨by rw [HM.out]; exact HRN.out, below_tr HBL.out HBL2.out⟩
          go_wp2_with fail
          go_ret
          refine ⟨?_, HFIN.out.2⟩
          have e := HFIN.out.1
          subst e
          rfl
end
end Go.Proofs.YtnplmembdfklcaaGreatDoor
