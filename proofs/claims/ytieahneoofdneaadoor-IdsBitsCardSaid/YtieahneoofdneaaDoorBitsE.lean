/-
  The walk of IdsBits. Helper text; the conditions are those typed.
-/
import Derived.Test.YtieahneoofdneaaDoorBitsD
namespace Go.Proofs.YtieahneoofdneaaDoor
set_option linter.unusedVariables false
set_option linter.unusedSimpArgs false
open Go.RowKit Go.Maps Go.Shelf
attribute [local go_sem] Oper.semAt_some

/-- Pairs that came in. -/
def PairsV (w : World) (l : List (Int × Bool)) (v : Value) : Prop := ∃ a c, v = .slice a l.length c ∧ l.length * 16 ≤ 140737488355328 ∧ (∀ p ∈ l, (Lit.int .i64 p.1).wf = true) ∧
  (l ≠ [] → ∃ b off, a = some ⟨b, off, none⟩ ∧ b < w.heap.size ∧ ∀ i (h : i < l.length), w.cell? ⟨b, off + i * 2, none⟩ = some (.int .i64 l[i].1) ∧ w.cell? ⟨b, off + i * 2 + 1, none⟩ = some (.bool l[i].2))

/-- What each operation of the comparisons yields. -/
def cmpV (was inn : Bool) (O k n c : Nat) (A : Option Addr) : Nat → Value → World → Prop := fun i v _ => match i with
  | 0 => v = .bool (was != inn)
  | 1 => v = .bool was
  | 2 => v = .pointer (some ⟨O, 1, none⟩)
  | 3 => v = .bool inn
  | 4 => v = .bool (was != inn)
  | 5 => v = .bool false
  | 6 => v = .bool false
  | 7 => v = .int .i64 0
  | 8 => v = .bool false
  | 9 => v = .bool false
  | 10 => v = .bool false
  | 11 => v = .pointer (some ⟨O, 0, none⟩)
  | 12 => v = .int .i64 (k : Int)
  | 13 => v = .bool inn
  | 14 => v = .pointer (some ⟨O, 1, none⟩)
  | 15 => v = .bool inn
  | 16 => v = .bool false
  | 17 => v = .bool false
  | 18 => v = .bool false
  | 19 => v = .int .i64 (n : Int)
  | 20 => v = .slice A n c
  | 21 => v = .int .i64 (n : Int)
  | 22 => v = .bool false
  | 23 => v = .bool false
  | _ => True

set_option maxHeartbeats 8000000 in
set_option maxRecDepth 1000000 in
theorem bits_walk (l : List (Int × Bool)) (a : Option Addr) (N c : Nat) (stop : Int) (w : World) (hl : PairsV w l (.slice a N c)) (hT : Tz w) :
    Calls Tryd.prog 3 #[.slice a N c, .int .i64 stop] w fun e w' => e = .returned (.bool true) ∧ Below w.heap.size w w' := by
  have H0 : Hid (∀ w', Calls Tryd.prog 4 #[] w' fun e w'' => e = .returned (.bool true) ∧ Below w'.heap.size w' w'') := awake_any
  obtain ⟨a', c', he, hN, hwf, hin⟩ := hl
  injection he with e1 e2 e3
  subst e1 e3
  rw [← e2] at hN
  have hln := Lib.hid e2
  clear e2
  replace hin := Lib.hid hin
  replace hwf := Lib.hid hwf
  replace hT := Lib.hid hT
  refine (callsIn_wide (n := 6)).1 ?_
  refine callsIn_of_wp_marks Tryd.func3 rfl trivial ?_ rfl
  simp only [Tryd.ntmps3, List.size_toArray, List.length_cons, List.length_nil, Nat.reduceAdd, Nat.reduceSub, Array.replicate_succ, Array.replicate_zero, List.push_toArray, List.append_toArray, List.nil_append, List.cons_append]
  refine wpIn_wide.2 ?_
  go_upto_region 2 with (go_at_call 4; refine (H0.out _).mono ?_; rintro e w1 ⟨rfl, hb1⟩)
  have HB1 : Hid (Below w.heap.size w w1 ∧ BoxN w1 w.heap.size [.int .i64 stop] 3 ∧ BoxN w1 (w.heap.size + 1) [.bool false] 4) := by
    have h1 := boxN_alloc w [.int .i64 stop] 3
    have h2 := boxN_alloc (w.alloc (.cells #[.int .i64 stop] 3)) [.bool false] 4
    rw [World.size_alloc] at h2
    exact ⟨below_tr (below2 _ _ _) hb1, (h1.below (below1 _ _)).below hb1, h2.below hb1⟩
  clear hb1
  obtain ⟨zs, hz1, hz2, hz⟩ : ∃ zs : Array Value, zs.size = 1024 ∧ Hid (∀ j, j < 1024 → zs[j]? = some (.int .u64 0)) ∧ ∀ w, (zeroValue 27).run Tryd.prog w = .ok (.agg zs) w := ⟨Array.replicate 1024 (.int .u64 0), by simp, fun j hj => by simp [hj], zero_run zinfo27⟩
  obtain ⟨Bk, hBk⟩ : ∃ Bk, w1.heap.size = Bk := ⟨_, rfl⟩
  have HI0 : Hid (BInv w stop Bk ((w1.alloc (.cells zs 27)).alloc (.cells #[.slice none 0 0] 28)) (fun _ => 0) (.slice none 0 0) []) := by
    subst hBk
    have h4 := boxN_alloc (w1.alloc (.cells zs 27)) [.slice none 0 0] 28
    rw [World.size_alloc] at h4
    refine ⟨HB1.out.1.trans (below_to (below2 _ _ _) HB1.out.1.size), HB1.out.2.1.below (below2 _ _ _), HB1.out.2.2.below (below2 _ _ _), ⟨?_, fun j => by omega⟩, h4, ⟨none, 0, 0, rfl, rfl, .inl rfl, Nat.le_refl _, Nat.zero_le _⟩, isBits_none, HB1.out.2.2.lt⟩
    exact BoxF.below (W := w1.alloc (.cells zs 27)) ⟨zs, alloc_at _ _, hz1, hz2.out⟩ (below1 _ _)
  clear HB1
  go_wp2_with fail
  generalize ((w1.alloc (.cells zs 27)).alloc (.cells #[.slice none 0 0] 28)) = w2 at HI0 ⊢
  clear hz hz1 hz2 hBk H0
  go_loopw [8] (fun v8 wr => ∃ i : Nat, v8 = .int .i64 i ∧ i ≤ N ∧ Hid (∃ W v L, BInv w stop Bk wr W v L)) (fun v8 _ => N - (intOf v8).toNat)
  case atStart => exact ⟨0, rfl, Nat.zero_le _, _, _, _, HI0.out⟩
  case round =>
    obtain ⟨i, rfl, hi, HX⟩ := hrel
    obtain ⟨W, v, L, hI⟩ := HX.out
    have HI := Lib.hid hI
    clear HX HI0 hI
    by_cases hlt : i < N
    · have hi1 : (i : Int) < (N : Int) := by omega
      have hlen : i < l.length := by have := hln.out; omega
      have hne : l ≠ [] := fun e => by rw [e] at hlen; exact absurd hlen (Nat.not_lt_zero _)
      obtain ⟨b, off, hab, hbS, hcells⟩ := hin.out hne
      subst hab
      obtain ⟨hc0, hc1⟩ := hcells i hlen
      have hw0 := hwf.out _ (List.getElem_mem hlen)
      generalize hop : l[i] = op at hc0 hc1 hw0
      obtain ⟨n, inn⟩ := op
      have c0 : wr.cell? ⟨b, off + i * 2, none⟩ = some (.int .i64 n) := cell_blk (HI.out.below.block b hbS) hc0
      have c1 : wr.cell? ⟨b, off + i * 2 + 1, none⟩ = some (.bool inn) := cell_blk (HI.out.below.block b hbS) hc1
      clear hcells hc0 hc1 hop hbS
      obtain ⟨wo, ewo⟩ : ∃ wo, wr.alloc (.cells #[.int .i64 n, .bool inn] 30) = wo := ⟨_, rfl⟩
      have HO : Hid (BoxN wo wr.heap.size [.int .i64 n, .bool inn] 30 ∧ BInv w stop Bk wo W v L ∧ wr.heap.size < wo.heap.size) := by
        rw [← ewo]
        exact ⟨boxN_alloc _ _ _, HI.out.up (below1 _ _), by simp⟩
      have o0 := HO.out.1.cell (j := 0) rfl
      have o1 := HO.out.1.cell (j := 1) rfl
      have cl := HO.out.2.1.boxL.cell (j := 0) rfl
      obtain ⟨LA, Ln, Lc, hv, hcut⟩ := HO.out.2.1.sl
      subst hv
      have HHas := Lib.hid (has_in hcut n)
      clear hcut
      by_cases hr : n < 0 ∨ 65535 < n
      · have HSX := Lib.hid (setx_c (b := Bk) n hr inn)
        have HHX := Lib.hid (hasx_c (b := Bk) n hr)
        have HNX : Hid (∃ W v L, BInv w stop Bk wo W v L) := ⟨_, _, _, HO.out.2.1⟩
        obtain ⟨was, hwas⟩ : ∃ was, decide (n ∈ L) = was := ⟨_, rfl⟩
        rw [hwas] at HHas
        clear hwas hw0
        have hcond : n < 0 ∨ ¬ n < 0 ∧ 65535 < n := by omega
        clear hr
        rcases hcond with hr | ⟨hr, hr2⟩
        all_goals
          go_wp2_with (first | (go_at_call 5; refine HHas.out.mono ?_; rintro e w3 ⟨rfl, rfl⟩) | (go_at_call 6; refine (HSX.out _).mono ?_; rintro e w4 ⟨rfl, rfl⟩) | (go_at_call 7; refine (HHX.out _).mono ?_; rintro e w5 ⟨rfl, rfl⟩))
          go_roundw
          case rel => exact ⟨i + 1, by go_num, by omega, HNX⟩
          case measure => simp [intOf]; omega
      · obtain ⟨k, hk, rfl⟩ : ∃ k : Nat, k < 65536 ∧ n = (k : Int) := ⟨n.toNat, by omega, by omega⟩
        have hk1 : ¬ (k : Int) < 0 := by omega
        have hk2 : ¬ 65535 < (k : Int) := by omega
        have hwas := was_bit HO.out.2.1.isb hk
        obtain ⟨was, hw⟩ : ∃ was, bitAt W k = was := ⟨_, rfl⟩
        rw [hwas, hw] at HHas
        have HSET := Lib.hid (setn_c HO.out.2.1.bits k hk inn)
        rw [hw] at HSET
        have HBIT : Hid (bitAt (if was = inn then W else flip1 W k) k = inn) := by
          show _ = _
          rw [← hw]
          by_cases h1 : bitAt W k = inn
          · rw [if_pos h1]; exact h1
          · rw [if_neg h1, flip1_at]
            revert h1
            cases bitAt W k <;> cases inn <;> simp
        have HISB : Hid (IsBits (if was = inn then W else flip1 W k) (listSet L k inn)) := by
          rw [← hw]
          exact isBits_set HO.out.2.1.isb hk inn
        have HOB : Hid (Bk + 1 < wr.heap.size) := HI.out.boxL.lt
        have HL4 : Hid (Ln ≤ 65536) := by
          obtain ⟨A, n', c', e, h1, _⟩ := HO.out.2.1.sl
          injection e with _ e _
          subst e
          rw [h1]
          exact HO.out.2.1.isb.len
        clear hwas hw hr hw0
        generalize (if was = inn then W else flip1 W k) = W' at HSET HBIT HISB
        go_upto_region 13 with (first | (go_at_call 5; refine HHas.out.mono ?_; rintro e w3 ⟨rfl, rfl⟩) | (go_at_call 6; refine HSET.out.mono ?_; rintro e w4 ⟨rfl, hb4, hg4⟩; have d0 : w4.cell? ⟨wr.heap.size, 0, none⟩ = some (.int .i64 (k : Int)) := cell_blk (hg4.block _ HO.out.2.2 (fun e => by have := HOB.out; cases e; omega)) (HO.out.1.cell (j := 0) rfl)))
        have HI4 : Hid (Below w.heap.size w w4 ∧ BoxN w4 w.heap.size [.int .i64 stop] 3 ∧ BoxN w4 (w.heap.size + 1) [.bool false] 4 ∧ BoxN w4 (Bk + 1) [.slice LA Ln Lc] 28 ∧ BitsAt w4 Bk W') := by
          obtain ⟨h1, h2, h3, h4, _⟩ := HO.out.2.1.turn hb4 hg4
          exact ⟨h1, h2, h3, h4, hb4⟩
        have HC4 : Hid (CutI w4 LA Ln Lc L) := by
          obtain ⟨_, _, _, _, A, n', c', e, h5⟩ := HO.out.2.1.turn hb4 hg4
          injection e with e1 e2 e3
          subst e1 e2 e3
          exact h5
        have HO4 : Hid (BoxN w4 wr.heap.size [.int .i64 (k : Int), .bool inn] 30) := HO.out.1.to (hg4.block _ HO.out.2.2 (fun e => by have := HOB.out; cases e; omega))
        have d1 := HO4.out.cell (j := 1) rfl
        have dl := HI4.out.2.2.2.1.cell (j := 0) rfl
        clear hb4 hg4 o0 o1 cl
        cases inn with
        | true =>
          cases was with
          | true =>
            have HPUT := Lib.hid (put1_in (HC4.out) (k : Int) (by have := HL4.out; omega))
            go_upto_region 16 with (go_at_call 8; refine HPUT.out.mono ?_; rintro e w5 ⟨v5, rfl, ⟨A6, n6, c6, rfl, hcut6⟩, hb5⟩; have cl5 := (HI4.out.2.2.2.1.below hb5).cell (j := 0) rfl; have fl5 := (HI4.out.2.2.2.1.below hb5).frozen 0)
            have hI6 := BInv.list (v' := .slice A6 n6 c6) (L' := listSet L k true) HI.out.lo HI4.out.1 HI4.out.2.1 HI4.out.2.2.1 HI4.out.2.2.2.1 HI4.out.2.2.2.2 (fun x e => by cases e) hb5 ⟨A6, n6, c6, rfl, hcut6⟩ HISB.out
            have HI6 := Lib.hid hI6
            have HO6 : Hid (BoxN (w5.setCell ⟨Bk + 1, 0, none⟩ (.slice A6 n6 c6)) wr.heap.size [.int .i64 (k : Int), .bool true] 30) := (HO4.out.below hb5).other (by have := HOB.out; omega) _ _
            have HN6 : Hid (n6 = (listSet L k true).length) := hcut6.1
            clear hI6 hcut6 hb5 cl5 fl5
            generalize (w5.setCell ⟨Bk + 1, 0, none⟩ (.slice A6 n6 c6)) = w6 at HI6 HO6 ⊢
            have HH6 : Hid (∀ W, Below w6.drew.heap.size w6.drew W → Calls Tryd.prog 7 #[.pointer (some ⟨Bk, 0, none⟩), .int .i64 (k : Int)] W fun e w' => e = .returned (.bool true) ∧ Below W.heap.size W w') := fun W hW =>
              (hasn_c ((HI6.out.up (below_dr1 (Below.refl _ _))).up hW).bits k hk).mono fun e w' ⟨h1, h2⟩ => ⟨by rw [h1, HBIT.out], by rw [h2]; exact Below.refl _ _⟩
            have HC6 : Hid (∀ W, Below w6.drew.heap.size w6.drew W → Calls Tryd.prog 10 #[.pointer (some ⟨Bk, 0, none⟩)] W fun e w' => e = .returned (.int .i64 (n6 : Int)) ∧ Below W.heap.size W w') := fun W hW => by
              have hI := (HI6.out.up (below_dr1 (Below.refl _ _))).up hW
              have := count_c hI.bits (hT.out.at (Nat.le_refl _) hI.below) _ hI.isb hI.isb.len
              rw [← HN6.out] at this
              exact this
            have q0 : w6.drew.cell? ⟨wr.heap.size, 0, none⟩ = some (.int .i64 (k : Int)) := HO6.out.cell (j := 0) rfl
            have q1 : w6.drew.cell? ⟨wr.heap.size, 1, none⟩ = some (.bool true) := HO6.out.cell (j := 1) rfl
            have ql : w6.drew.cell? ⟨Bk + 1, 0, none⟩ = some (.slice A6 n6 c6) := HI6.out.boxL.cell (j := 0) rfl
            have HNX : Hid (∀ W, Below w6.drew.heap.size w6.drew W → ∃ W' v L, BInv w stop Bk W W' v L) := fun W hW => ⟨_, _, _, (HI6.out.up (below_dr1 (Below.refl _ _))).up hW⟩
            refine Mono.wp_region_mono (cmpV true true wr.heap.size k n6 c6 A6) (fun W W' => Below W.heap.size W W') (by kernel_rfl) (by kernel_rfl) (fun W => Below.refl _ _) (fun _ _ _ _ _ h => h) (fun a b c => below_tr) ?_ ?_
            · refine ⟨Mono.Step.plain rfl ?_, Mono.Step.plain rfl ?_, Mono.Step.plain rfl ?_, Mono.Step.plain rfl ?_, Mono.Step.plain rfl ?_, Mono.Step.plain rfl ?_, Mono.Step.plain rfl ?_, ?_, ?_, Mono.Step.plain rfl ?_, Mono.Step.plain rfl ?_, ?_, ?_, ?_, ?_, ?_, ?_, Mono.Step.plain rfl ?_, Mono.Step.plain rfl ?_, ?_, ?_, ?_, ?_, Mono.Step.plain rfl ?_, trivial⟩
              · intro vs W hR hk K hK
                simp [Mono.actOf, Mono.deps, Mono.dstOf, Region.binds, Act.put]
                go_simp
                exact hK _ _ (Below.refl _ _) rfl
              · intro vs W hR hk K hK
                simp [Mono.actOf, Mono.deps, Mono.dstOf, Region.binds, Act.put]
                go_simp
                exact hK _ _ (Below.refl _ _) rfl
              · intro vs W hR hk K hK
                simp [Mono.actOf, Mono.deps, Mono.dstOf, Region.binds, Act.put]
                go_simp
                exact hK _ _ (Below.refl _ _) rfl
              · intro vs W hR hk K hK
                have h2 : vs 2 = .pointer (some ⟨wr.heap.size, 1, none⟩) := hk 2 (by decide)
                have q1 := cell_tr hR q1
                simp [Mono.actOf, Mono.deps, Mono.dstOf, Region.binds, Act.put, h2]
                go_simp
                exact hK _ _ (Below.refl _ _) rfl
              · intro vs W hR hk K hK
                have h1 : vs 1 = .bool true := hk 1 (by decide)
                have h3 : vs 3 = .bool true := hk 3 (by decide)
                simp [Mono.actOf, Mono.deps, Mono.dstOf, Region.binds, Act.put, h1, h3]
                go_simp
                exact hK _ _ (Below.refl _ _) rfl
              · intro vs W hR hk K hK
                have h0 : vs 0 = .bool (true != true) := hk 0 (by decide)
                have h4 : vs 4 = .bool (true != true) := hk 4 (by decide)
                simp [Mono.actOf, Mono.deps, Mono.dstOf, Region.binds, Act.put, h0, h4]
                go_simp
                exact hK _ _ (Below.refl _ _) rfl
              · intro vs W hR hk K hK
                have h5 : vs 5 = .bool false := hk 5 (by decide)
                simp [Mono.actOf, Mono.deps, Mono.dstOf, Region.binds, Act.put, h5]
                go_simp
                exact hK _ _ (Below.refl _ _) rfl
              · intro vs W hR hk
                have h6 : vs 6 = .bool false := hk 6 (by decide)
                rw [if_pos (by simp [Region.wanted, yielded, Mono.actOf, Mono.deps, Mono.dstOf, Region.binds, Act.put, h6])]
                intro K hK
                simp [Mono.actOf, Mono.deps, Mono.dstOf, Region.binds, Act.put, h6]
                go_simp
                exact hK _ _ (Below.refl _ _) rfl
              · intro vs W hR hk
                have h7 : vs 7 = .int .i64 0 := hk 7 (by decide)
                have h6 : vs 6 = .bool false := hk 6 (by decide)
                rw [if_pos (by simp [Region.wanted, yielded, Mono.actOf, Mono.deps, Mono.dstOf, Region.binds, Act.put, h7, h6])]
                intro K hK
                simp [Mono.actOf, Mono.deps, Mono.dstOf, Region.binds, Act.put, h7, h6]
                go_simp
                exact hK _ _ (Below.refl _ _) rfl
              · intro vs W hR hk K hK
                have h6 : vs 6 = .bool false := hk 6 (by decide)
                have h8 : vs 8 = .bool false := hk 8 (by decide)
                simp [Mono.actOf, Mono.deps, Mono.dstOf, Region.binds, Act.put, h6, h8]
                go_simp
                exact hK _ _ (Below.refl _ _) rfl
              · intro vs W hR hk K hK
                have h9 : vs 9 = .bool false := hk 9 (by decide)
                have h6 : vs 6 = .bool false := hk 6 (by decide)
                simp [Mono.actOf, Mono.deps, Mono.dstOf, Region.binds, Act.put, h9, h6]
                go_simp
                exact hK _ _ (Below.refl _ _) rfl
              · intro vs W hR hk
                have h10 : vs 10 = .bool false := hk 10 (by decide)
                rw [if_pos (by simp [Region.wanted, yielded, Mono.actOf, Mono.deps, Mono.dstOf, Region.binds, Act.put, h10])]
                intro K hK
                simp [Mono.actOf, Mono.deps, Mono.dstOf, Region.binds, Act.put, h10]
                go_simp
                exact hK _ _ (Below.refl _ _) rfl
              · intro vs W hR hk
                have h11 : vs 11 = .pointer (some ⟨wr.heap.size, 0, none⟩) := hk 11 (by decide)
                have h10 : vs 10 = .bool false := hk 10 (by decide)
                have q0 := cell_tr hR q0
                rw [if_pos (by simp [Region.wanted, yielded, Mono.actOf, Mono.deps, Mono.dstOf, Region.binds, Act.put, h11, h10])]
                intro K hK
                simp [Mono.actOf, Mono.deps, Mono.dstOf, Region.binds, Act.put, h11, h10]
                go_simp
                exact hK _ _ (Below.refl _ _) rfl
              · intro vs W hR hk
                have h12 : vs 12 = .int .i64 (k : Int) := hk 12 (by decide)
                have h10 : vs 10 = .bool false := hk 10 (by decide)
                rw [if_pos (by simp [Region.wanted, yielded, Mono.actOf, Mono.deps, Mono.dstOf, Region.binds, Act.put, h12, h10])]
                intro K hK
                simp [Mono.actOf, Mono.deps, Mono.dstOf, Region.binds, Act.put, h12, h10]
                go_simp
                refine (HH6.out _ hR).mono ?_
                rintro e w8 ⟨rfl, hb8⟩
                exact ⟨_, rfl, hK _ _ hb8 rfl⟩
              · intro vs W hR hk
                have h10 : vs 10 = .bool false := hk 10 (by decide)
                rw [if_pos (by simp [Region.wanted, yielded, Mono.actOf, Mono.deps, Mono.dstOf, Region.binds, Act.put, h10])]
                intro K hK
                simp [Mono.actOf, Mono.deps, Mono.dstOf, Region.binds, Act.put, h10]
                go_simp
                exact hK _ _ (Below.refl _ _) rfl
              · intro vs W hR hk
                have h14 : vs 14 = .pointer (some ⟨wr.heap.size, 1, none⟩) := hk 14 (by decide)
                have h10 : vs 10 = .bool false := hk 10 (by decide)
                have q1 := cell_tr hR q1
                rw [if_pos (by simp [Region.wanted, yielded, Mono.actOf, Mono.deps, Mono.dstOf, Region.binds, Act.put, h14, h10])]
                intro K hK
                simp [Mono.actOf, Mono.deps, Mono.dstOf, Region.binds, Act.put, h14, h10]
                go_simp
                exact hK _ _ (Below.refl _ _) rfl
              · intro vs W hR hk
                have h13 : vs 13 = .bool true := hk 13 (by decide)
                have h15 : vs 15 = .bool true := hk 15 (by decide)
                have h10 : vs 10 = .bool false := hk 10 (by decide)
                rw [if_pos (by simp [Region.wanted, yielded, Mono.actOf, Mono.deps, Mono.dstOf, Region.binds, Act.put, h13, h15, h10])]
                intro K hK
                simp [Mono.actOf, Mono.deps, Mono.dstOf, Region.binds, Act.put, h13, h15, h10]
                go_simp
                exact hK _ _ (Below.refl _ _) rfl
              · intro vs W hR hk K hK
                have h10 : vs 10 = .bool false := hk 10 (by decide)
                have h16 : vs 16 = .bool false := hk 16 (by decide)
                simp [Mono.actOf, Mono.deps, Mono.dstOf, Region.binds, Act.put, h10, h16]
                go_simp
                exact hK _ _ (Below.refl _ _) rfl
              · intro vs W hR hk K hK
                have h17 : vs 17 = .bool false := hk 17 (by decide)
                have h13 : vs 13 = .bool true := hk 13 (by decide)
                simp [Mono.actOf, Mono.deps, Mono.dstOf, Region.binds, Act.put, h17, h13]
                go_simp
                exact hK _ _ (Below.refl _ _) rfl
              · intro vs W hR hk
                have h18 : vs 18 = .bool false := hk 18 (by decide)
                rw [if_pos (by simp [Region.wanted, yielded, Mono.actOf, Mono.deps, Mono.dstOf, Region.binds, Act.put, h18])]
                intro K hK
                simp [Mono.actOf, Mono.deps, Mono.dstOf, Region.binds, Act.put, h18]
                go_simp
                refine (HC6.out _ hR).mono ?_
                rintro e w8 ⟨rfl, hb8⟩
                exact ⟨_, rfl, hK _ _ hb8 rfl⟩
              · intro vs W hR hk
                have h18 : vs 18 = .bool false := hk 18 (by decide)
                have ql := cell_tr hR ql
                rw [if_pos (by simp [Region.wanted, yielded, Mono.actOf, Mono.deps, Mono.dstOf, Region.binds, Act.put, h18])]
                intro K hK
                simp [Mono.actOf, Mono.deps, Mono.dstOf, Region.binds, Act.put, h18]
                go_simp
                exact hK _ _ (Below.refl _ _) rfl
              · intro vs W hR hk
                have h20 : vs 20 = .slice A6 n6 c6 := hk 20 (by decide)
                have h18 : vs 18 = .bool false := hk 18 (by decide)
                rw [if_pos (by simp [Region.wanted, yielded, Mono.actOf, Mono.deps, Mono.dstOf, Region.binds, Act.put, h20, h18])]
                intro K hK
                simp [Mono.actOf, Mono.deps, Mono.dstOf, Region.binds, Act.put, h20, h18]
                go_simp
                exact hK _ _ (Below.refl _ _) rfl
              · intro vs W hR hk
                have h19 : vs 19 = .int .i64 (n6 : Int) := hk 19 (by decide)
                have h21 : vs 21 = .int .i64 (n6 : Int) := hk 21 (by decide)
                have h18 : vs 18 = .bool false := hk 18 (by decide)
                rw [if_pos (by simp [Region.wanted, yielded, Mono.actOf, Mono.deps, Mono.dstOf, Region.binds, Act.put, h19, h21, h18])]
                intro K hK
                simp [Mono.actOf, Mono.deps, Mono.dstOf, Region.binds, Act.put, h19, h21, h18]
                go_simp
                exact hK _ _ (Below.refl _ _) rfl
              · intro vs W hR hk K hK
                have h18 : vs 18 = .bool false := hk 18 (by decide)
                have h22 : vs 22 = .bool false := hk 22 (by decide)
                simp [Mono.actOf, Mono.deps, Mono.dstOf, Region.binds, Act.put, h18, h22]
                go_simp
                exact hK _ _ (Below.refl _ _) rfl
            · intro vs W hR hv
              have h23 : vs 23 = .bool false := hv 23 (by decide)
              simp [Mono.fill, Mono.dstOf, Act.put, List.range, List.range.loop, h23]
              replace hR := Lib.hid (HNX.out _ hR)
              clear hv h23
              go_wp2
              go_roundw
              case rel => exact ⟨i + 1, by go_num, by omega, hR⟩
              case measure => simp [intOf]; omega
          | false =>
            have HPUT := Lib.hid (put1_in (HC4.out) (k : Int) (by have := HL4.out; omega))
            go_upto_region 16 with (go_at_call 8; refine HPUT.out.mono ?_; rintro e w5 ⟨v5, rfl, ⟨A6, n6, c6, rfl, hcut6⟩, hb5⟩; have cl5 := (HI4.out.2.2.2.1.below hb5).cell (j := 0) rfl; have fl5 := (HI4.out.2.2.2.1.below hb5).frozen 0)
            have hI6 := BInv.list (v' := .slice A6 n6 c6) (L' := listSet L k true) HI.out.lo HI4.out.1 HI4.out.2.1 HI4.out.2.2.1 HI4.out.2.2.2.1 HI4.out.2.2.2.2 (fun x e => by cases e) hb5 ⟨A6, n6, c6, rfl, hcut6⟩ HISB.out
            have HI6 := Lib.hid hI6
            have HO6 : Hid (BoxN (w5.setCell ⟨Bk + 1, 0, none⟩ (.slice A6 n6 c6)) wr.heap.size [.int .i64 (k : Int), .bool true] 30) := (HO4.out.below hb5).other (by have := HOB.out; omega) _ _
            have HN6 : Hid (n6 = (listSet L k true).length) := hcut6.1
            clear hI6 hcut6 hb5 cl5 fl5
            generalize (w5.setCell ⟨Bk + 1, 0, none⟩ (.slice A6 n6 c6)) = w6 at HI6 HO6 ⊢
            have HH6 : Hid (∀ W, Below w6.drew.heap.size w6.drew W → Calls Tryd.prog 7 #[.pointer (some ⟨Bk, 0, none⟩), .int .i64 (k : Int)] W fun e w' => e = .returned (.bool true) ∧ Below W.heap.size W w') := fun W hW =>
              (hasn_c ((HI6.out.up (below_dr1 (Below.refl _ _))).up hW).bits k hk).mono fun e w' ⟨h1, h2⟩ => ⟨by rw [h1, HBIT.out], by rw [h2]; exact Below.refl _ _⟩
            have HC6 : Hid (∀ W, Below w6.drew.heap.size w6.drew W → Calls Tryd.prog 10 #[.pointer (some ⟨Bk, 0, none⟩)] W fun e w' => e = .returned (.int .i64 (n6 : Int)) ∧ Below W.heap.size W w') := fun W hW => by
              have hI := (HI6.out.up (below_dr1 (Below.refl _ _))).up hW
              have := count_c hI.bits (hT.out.at (Nat.le_refl _) hI.below) _ hI.isb hI.isb.len
              rw [← HN6.out] at this
              exact this
            have q0 : w6.drew.cell? ⟨wr.heap.size, 0, none⟩ = some (.int .i64 (k : Int)) := HO6.out.cell (j := 0) rfl
            have q1 : w6.drew.cell? ⟨wr.heap.size, 1, none⟩ = some (.bool true) := HO6.out.cell (j := 1) rfl
            have ql : w6.drew.cell? ⟨Bk + 1, 0, none⟩ = some (.slice A6 n6 c6) := HI6.out.boxL.cell (j := 0) rfl
            have HNX : Hid (∀ W, Below w6.drew.heap.size w6.drew W → ∃ W' v L, BInv w stop Bk W W' v L) := fun W hW => ⟨_, _, _, (HI6.out.up (below_dr1 (Below.refl _ _))).up hW⟩
            refine Mono.wp_region_mono (cmpV false true wr.heap.size k n6 c6 A6) (fun W W' => Below W.heap.size W W') (by kernel_rfl) (by kernel_rfl) (fun W => Below.refl _ _) (fun _ _ _ _ _ h => h) (fun a b c => below_tr) ?_ ?_
            · refine ⟨Mono.Step.plain rfl ?_, Mono.Step.plain rfl ?_, Mono.Step.plain rfl ?_, Mono.Step.plain rfl ?_, Mono.Step.plain rfl ?_, Mono.Step.plain rfl ?_, Mono.Step.plain rfl ?_, ?_, ?_, Mono.Step.plain rfl ?_, Mono.Step.plain rfl ?_, ?_, ?_, ?_, ?_, ?_, ?_, Mono.Step.plain rfl ?_, Mono.Step.plain rfl ?_, ?_, ?_, ?_, ?_, Mono.Step.plain rfl ?_, trivial⟩
              · intro vs W hR hk K hK
                simp [Mono.actOf, Mono.deps, Mono.dstOf, Region.binds, Act.put]
                go_simp
                exact hK _ _ (Below.refl _ _) rfl
              · intro vs W hR hk K hK
                simp [Mono.actOf, Mono.deps, Mono.dstOf, Region.binds, Act.put]
                go_simp
                exact hK _ _ (Below.refl _ _) rfl
              · intro vs W hR hk K hK
                simp [Mono.actOf, Mono.deps, Mono.dstOf, Region.binds, Act.put]
                go_simp
                exact hK _ _ (Below.refl _ _) rfl
              · intro vs W hR hk K hK
                have h2 : vs 2 = .pointer (some ⟨wr.heap.size, 1, none⟩) := hk 2 (by decide)
                have q1 := cell_tr hR q1
                simp [Mono.actOf, Mono.deps, Mono.dstOf, Region.binds, Act.put, h2]
                go_simp
                exact hK _ _ (Below.refl _ _) rfl
              · intro vs W hR hk K hK
                have h1 : vs 1 = .bool false := hk 1 (by decide)
                have h3 : vs 3 = .bool true := hk 3 (by decide)
                simp [Mono.actOf, Mono.deps, Mono.dstOf, Region.binds, Act.put, h1, h3]
                go_simp
                exact hK _ _ (Below.refl _ _) rfl
              · intro vs W hR hk K hK
                have h0 : vs 0 = .bool (false != true) := hk 0 (by decide)
                have h4 : vs 4 = .bool (false != true) := hk 4 (by decide)
                simp [Mono.actOf, Mono.deps, Mono.dstOf, Region.binds, Act.put, h0, h4]
                go_simp
                exact hK _ _ (Below.refl _ _) rfl
              · intro vs W hR hk K hK
                have h5 : vs 5 = .bool false := hk 5 (by decide)
                simp [Mono.actOf, Mono.deps, Mono.dstOf, Region.binds, Act.put, h5]
                go_simp
                exact hK _ _ (Below.refl _ _) rfl
              · intro vs W hR hk
                have h6 : vs 6 = .bool false := hk 6 (by decide)
                rw [if_pos (by simp [Region.wanted, yielded, Mono.actOf, Mono.deps, Mono.dstOf, Region.binds, Act.put, h6])]
                intro K hK
                simp [Mono.actOf, Mono.deps, Mono.dstOf, Region.binds, Act.put, h6]
                go_simp
                exact hK _ _ (Below.refl _ _) rfl
              · intro vs W hR hk
                have h7 : vs 7 = .int .i64 0 := hk 7 (by decide)
                have h6 : vs 6 = .bool false := hk 6 (by decide)
                rw [if_pos (by simp [Region.wanted, yielded, Mono.actOf, Mono.deps, Mono.dstOf, Region.binds, Act.put, h7, h6])]
                intro K hK
                simp [Mono.actOf, Mono.deps, Mono.dstOf, Region.binds, Act.put, h7, h6]
                go_simp
                exact hK _ _ (Below.refl _ _) rfl
              · intro vs W hR hk K hK
                have h6 : vs 6 = .bool false := hk 6 (by decide)
                have h8 : vs 8 = .bool false := hk 8 (by decide)
                simp [Mono.actOf, Mono.deps, Mono.dstOf, Region.binds, Act.put, h6, h8]
                go_simp
                exact hK _ _ (Below.refl _ _) rfl
              · intro vs W hR hk K hK
                have h9 : vs 9 = .bool false := hk 9 (by decide)
                have h6 : vs 6 = .bool false := hk 6 (by decide)
                simp [Mono.actOf, Mono.deps, Mono.dstOf, Region.binds, Act.put, h9, h6]
                go_simp
                exact hK _ _ (Below.refl _ _) rfl
              · intro vs W hR hk
                have h10 : vs 10 = .bool false := hk 10 (by decide)
                rw [if_pos (by simp [Region.wanted, yielded, Mono.actOf, Mono.deps, Mono.dstOf, Region.binds, Act.put, h10])]
                intro K hK
                simp [Mono.actOf, Mono.deps, Mono.dstOf, Region.binds, Act.put, h10]
                go_simp
                exact hK _ _ (Below.refl _ _) rfl
              · intro vs W hR hk
                have h11 : vs 11 = .pointer (some ⟨wr.heap.size, 0, none⟩) := hk 11 (by decide)
                have h10 : vs 10 = .bool false := hk 10 (by decide)
                have q0 := cell_tr hR q0
                rw [if_pos (by simp [Region.wanted, yielded, Mono.actOf, Mono.deps, Mono.dstOf, Region.binds, Act.put, h11, h10])]
                intro K hK
                simp [Mono.actOf, Mono.deps, Mono.dstOf, Region.binds, Act.put, h11, h10]
                go_simp
                exact hK _ _ (Below.refl _ _) rfl
              · intro vs W hR hk
                have h12 : vs 12 = .int .i64 (k : Int) := hk 12 (by decide)
                have h10 : vs 10 = .bool false := hk 10 (by decide)
                rw [if_pos (by simp [Region.wanted, yielded, Mono.actOf, Mono.deps, Mono.dstOf, Region.binds, Act.put, h12, h10])]
                intro K hK
                simp [Mono.actOf, Mono.deps, Mono.dstOf, Region.binds, Act.put, h12, h10]
                go_simp
                refine (HH6.out _ hR).mono ?_
                rintro e w8 ⟨rfl, hb8⟩
                exact ⟨_, rfl, hK _ _ hb8 rfl⟩
              · intro vs W hR hk
                have h10 : vs 10 = .bool false := hk 10 (by decide)
                rw [if_pos (by simp [Region.wanted, yielded, Mono.actOf, Mono.deps, Mono.dstOf, Region.binds, Act.put, h10])]
                intro K hK
                simp [Mono.actOf, Mono.deps, Mono.dstOf, Region.binds, Act.put, h10]
                go_simp
                exact hK _ _ (Below.refl _ _) rfl
              · intro vs W hR hk
                have h14 : vs 14 = .pointer (some ⟨wr.heap.size, 1, none⟩) := hk 14 (by decide)
                have h10 : vs 10 = .bool false := hk 10 (by decide)
                have q1 := cell_tr hR q1
                rw [if_pos (by simp [Region.wanted, yielded, Mono.actOf, Mono.deps, Mono.dstOf, Region.binds, Act.put, h14, h10])]
                intro K hK
                simp [Mono.actOf, Mono.deps, Mono.dstOf, Region.binds, Act.put, h14, h10]
                go_simp
                exact hK _ _ (Below.refl _ _) rfl
              · intro vs W hR hk
                have h13 : vs 13 = .bool true := hk 13 (by decide)
                have h15 : vs 15 = .bool true := hk 15 (by decide)
                have h10 : vs 10 = .bool false := hk 10 (by decide)
                rw [if_pos (by simp [Region.wanted, yielded, Mono.actOf, Mono.deps, Mono.dstOf, Region.binds, Act.put, h13, h15, h10])]
                intro K hK
                simp [Mono.actOf, Mono.deps, Mono.dstOf, Region.binds, Act.put, h13, h15, h10]
                go_simp
                exact hK _ _ (Below.refl _ _) rfl
              · intro vs W hR hk K hK
                have h10 : vs 10 = .bool false := hk 10 (by decide)
                have h16 : vs 16 = .bool false := hk 16 (by decide)
                simp [Mono.actOf, Mono.deps, Mono.dstOf, Region.binds, Act.put, h10, h16]
                go_simp
                exact hK _ _ (Below.refl _ _) rfl
              · intro vs W hR hk K hK
                have h17 : vs 17 = .bool false := hk 17 (by decide)
                have h13 : vs 13 = .bool true := hk 13 (by decide)
                simp [Mono.actOf, Mono.deps, Mono.dstOf, Region.binds, Act.put, h17, h13]
                go_simp
                exact hK _ _ (Below.refl _ _) rfl
              · intro vs W hR hk
                have h18 : vs 18 = .bool false := hk 18 (by decide)
                rw [if_pos (by simp [Region.wanted, yielded, Mono.actOf, Mono.deps, Mono.dstOf, Region.binds, Act.put, h18])]
                intro K hK
                simp [Mono.actOf, Mono.deps, Mono.dstOf, Region.binds, Act.put, h18]
                go_simp
                refine (HC6.out _ hR).mono ?_
                rintro e w8 ⟨rfl, hb8⟩
                exact ⟨_, rfl, hK _ _ hb8 rfl⟩
              · intro vs W hR hk
                have h18 : vs 18 = .bool false := hk 18 (by decide)
                have ql := cell_tr hR ql
                rw [if_pos (by simp [Region.wanted, yielded, Mono.actOf, Mono.deps, Mono.dstOf, Region.binds, Act.put, h18])]
                intro K hK
                simp [Mono.actOf, Mono.deps, Mono.dstOf, Region.binds, Act.put, h18]
                go_simp
                exact hK _ _ (Below.refl _ _) rfl
              · intro vs W hR hk
                have h20 : vs 20 = .slice A6 n6 c6 := hk 20 (by decide)
                have h18 : vs 18 = .bool false := hk 18 (by decide)
                rw [if_pos (by simp [Region.wanted, yielded, Mono.actOf, Mono.deps, Mono.dstOf, Region.binds, Act.put, h20, h18])]
                intro K hK
                simp [Mono.actOf, Mono.deps, Mono.dstOf, Region.binds, Act.put, h20, h18]
                go_simp
                exact hK _ _ (Below.refl _ _) rfl
              · intro vs W hR hk
                have h19 : vs 19 = .int .i64 (n6 : Int) := hk 19 (by decide)
                have h21 : vs 21 = .int .i64 (n6 : Int) := hk 21 (by decide)
                have h18 : vs 18 = .bool false := hk 18 (by decide)
                rw [if_pos (by simp [Region.wanted, yielded, Mono.actOf, Mono.deps, Mono.dstOf, Region.binds, Act.put, h19, h21, h18])]
                intro K hK
                simp [Mono.actOf, Mono.deps, Mono.dstOf, Region.binds, Act.put, h19, h21, h18]
                go_simp
                exact hK _ _ (Below.refl _ _) rfl
              · intro vs W hR hk K hK
                have h18 : vs 18 = .bool false := hk 18 (by decide)
                have h22 : vs 22 = .bool false := hk 22 (by decide)
                simp [Mono.actOf, Mono.deps, Mono.dstOf, Region.binds, Act.put, h18, h22]
                go_simp
                exact hK _ _ (Below.refl _ _) rfl
            · intro vs W hR hv
              have h23 : vs 23 = .bool false := hv 23 (by decide)
              simp [Mono.fill, Mono.dstOf, Act.put, List.range, List.range.loop, h23]
              replace hR := Lib.hid (HNX.out _ hR)
              clear hv h23
              go_wp2
              go_roundw
              case rel => exact ⟨i + 1, by go_num, by omega, hR⟩
              case measure => simp [intOf]; omega
        | false =>
          cases was with
          | true =>
            have HMIN : Hid (Calls Tryd.prog 9 #[.slice LA Ln Lc, .slice (some ⟨w4.heap.size, 0, none⟩) 1 1] (w4.alloc (.cells #[.int .i64 (k : Int)] 3)) fun e w' => ∃ v, e = .returned v ∧ SliceI w' v (listSet L k false) ∧ Below w4.heap.size w4 w') := by
              refine (refMinus_in (HC4.out.below (below1 _ _)) (xs := L) (ys := [(k : Int)]) ⟨rfl, ints_new w4 [(k : Int)] 3, by simp, by decide⟩ (by have := HL4.out; omega)).mono fun e w' ⟨v, h1, h2, h3⟩ => ⟨v, h1, by rw [minus_ref] at h2; exact h2, below_tr (below1 _ _) h3⟩
            go_upto_region 16 with (go_at_call 9; refine HMIN.out.mono ?_; rintro e w5 ⟨v5, rfl, ⟨A6, n6, c6, rfl, hcut6⟩, hb5⟩; have cl5 := (HI4.out.2.2.2.1.below hb5).cell (j := 0) rfl; have fl5 := (HI4.out.2.2.2.1.below hb5).frozen 0)
            have hI6 := BInv.list (v' := .slice A6 n6 c6) (L' := listSet L k false) HI.out.lo HI4.out.1 HI4.out.2.1 HI4.out.2.2.1 HI4.out.2.2.2.1 HI4.out.2.2.2.2 (fun x e => by cases e) hb5 ⟨A6, n6, c6, rfl, hcut6⟩ HISB.out
            have HI6 := Lib.hid hI6
            have HO6 : Hid (BoxN (w5.setCell ⟨Bk + 1, 0, none⟩ (.slice A6 n6 c6)) wr.heap.size [.int .i64 (k : Int), .bool false] 30) := (HO4.out.below hb5).other (by have := HOB.out; omega) _ _
            have HN6 : Hid (n6 = (listSet L k false).length) := hcut6.1
            clear hI6 hcut6 hb5 cl5 fl5
            generalize (w5.setCell ⟨Bk + 1, 0, none⟩ (.slice A6 n6 c6)) = w6 at HI6 HO6 ⊢
            have HH6 : Hid (∀ W, Below w6.drew.heap.size w6.drew W → Calls Tryd.prog 7 #[.pointer (some ⟨Bk, 0, none⟩), .int .i64 (k : Int)] W fun e w' => e = .returned (.bool false) ∧ Below W.heap.size W w') := fun W hW =>
              (hasn_c ((HI6.out.up (below_dr1 (Below.refl _ _))).up hW).bits k hk).mono fun e w' ⟨h1, h2⟩ => ⟨by rw [h1, HBIT.out], by rw [h2]; exact Below.refl _ _⟩
            have HC6 : Hid (∀ W, Below w6.drew.heap.size w6.drew W → Calls Tryd.prog 10 #[.pointer (some ⟨Bk, 0, none⟩)] W fun e w' => e = .returned (.int .i64 (n6 : Int)) ∧ Below W.heap.size W w') := fun W hW => by
              have hI := (HI6.out.up (below_dr1 (Below.refl _ _))).up hW
              have := count_c hI.bits (hT.out.at (Nat.le_refl _) hI.below) _ hI.isb hI.isb.len
              rw [← HN6.out] at this
              exact this
            have q0 : w6.drew.cell? ⟨wr.heap.size, 0, none⟩ = some (.int .i64 (k : Int)) := HO6.out.cell (j := 0) rfl
            have q1 : w6.drew.cell? ⟨wr.heap.size, 1, none⟩ = some (.bool false) := HO6.out.cell (j := 1) rfl
            have ql : w6.drew.cell? ⟨Bk + 1, 0, none⟩ = some (.slice A6 n6 c6) := HI6.out.boxL.cell (j := 0) rfl
            have HNX : Hid (∀ W, Below w6.drew.heap.size w6.drew W → ∃ W' v L, BInv w stop Bk W W' v L) := fun W hW => ⟨_, _, _, (HI6.out.up (below_dr1 (Below.refl _ _))).up hW⟩
            refine Mono.wp_region_mono (cmpV true false wr.heap.size k n6 c6 A6) (fun W W' => Below W.heap.size W W') (by kernel_rfl) (by kernel_rfl) (fun W => Below.refl _ _) (fun _ _ _ _ _ h => h) (fun a b c => below_tr) ?_ ?_
            · refine ⟨Mono.Step.plain rfl ?_, Mono.Step.plain rfl ?_, Mono.Step.plain rfl ?_, Mono.Step.plain rfl ?_, Mono.Step.plain rfl ?_, Mono.Step.plain rfl ?_, Mono.Step.plain rfl ?_, ?_, ?_, Mono.Step.plain rfl ?_, Mono.Step.plain rfl ?_, ?_, ?_, ?_, ?_, ?_, ?_, Mono.Step.plain rfl ?_, Mono.Step.plain rfl ?_, ?_, ?_, ?_, ?_, Mono.Step.plain rfl ?_, trivial⟩
              · intro vs W hR hk K hK
                simp [Mono.actOf, Mono.deps, Mono.dstOf, Region.binds, Act.put]
                go_simp
                exact hK _ _ (Below.refl _ _) rfl
              · intro vs W hR hk K hK
                simp [Mono.actOf, Mono.deps, Mono.dstOf, Region.binds, Act.put]
                go_simp
                exact hK _ _ (Below.refl _ _) rfl
              · intro vs W hR hk K hK
                simp [Mono.actOf, Mono.deps, Mono.dstOf, Region.binds, Act.put]
                go_simp
                exact hK _ _ (Below.refl _ _) rfl
              · intro vs W hR hk K hK
                have h2 : vs 2 = .pointer (some ⟨wr.heap.size, 1, none⟩) := hk 2 (by decide)
                have q1 := cell_tr hR q1
                simp [Mono.actOf, Mono.deps, Mono.dstOf, Region.binds, Act.put, h2]
                go_simp
                exact hK _ _ (Below.refl _ _) rfl
              · intro vs W hR hk K hK
                have h1 : vs 1 = .bool true := hk 1 (by decide)
                have h3 : vs 3 = .bool false := hk 3 (by decide)
                simp [Mono.actOf, Mono.deps, Mono.dstOf, Region.binds, Act.put, h1, h3]
                go_simp
                exact hK _ _ (Below.refl _ _) rfl
              · intro vs W hR hk K hK
                have h0 : vs 0 = .bool (true != false) := hk 0 (by decide)
                have h4 : vs 4 = .bool (true != false) := hk 4 (by decide)
                simp [Mono.actOf, Mono.deps, Mono.dstOf, Region.binds, Act.put, h0, h4]
                go_simp
                exact hK _ _ (Below.refl _ _) rfl
              · intro vs W hR hk K hK
                have h5 : vs 5 = .bool false := hk 5 (by decide)
                simp [Mono.actOf, Mono.deps, Mono.dstOf, Region.binds, Act.put, h5]
                go_simp
                exact hK _ _ (Below.refl _ _) rfl
              · intro vs W hR hk
                have h6 : vs 6 = .bool false := hk 6 (by decide)
                rw [if_pos (by simp [Region.wanted, yielded, Mono.actOf, Mono.deps, Mono.dstOf, Region.binds, Act.put, h6])]
                intro K hK
                simp [Mono.actOf, Mono.deps, Mono.dstOf, Region.binds, Act.put, h6]
                go_simp
                exact hK _ _ (Below.refl _ _) rfl
              · intro vs W hR hk
                have h7 : vs 7 = .int .i64 0 := hk 7 (by decide)
                have h6 : vs 6 = .bool false := hk 6 (by decide)
                rw [if_pos (by simp [Region.wanted, yielded, Mono.actOf, Mono.deps, Mono.dstOf, Region.binds, Act.put, h7, h6])]
                intro K hK
                simp [Mono.actOf, Mono.deps, Mono.dstOf, Region.binds, Act.put, h7, h6]
                go_simp
                exact hK _ _ (Below.refl _ _) rfl
              · intro vs W hR hk K hK
                have h6 : vs 6 = .bool false := hk 6 (by decide)
                have h8 : vs 8 = .bool false := hk 8 (by decide)
                simp [Mono.actOf, Mono.deps, Mono.dstOf, Region.binds, Act.put, h6, h8]
                go_simp
                exact hK _ _ (Below.refl _ _) rfl
              · intro vs W hR hk K hK
                have h9 : vs 9 = .bool false := hk 9 (by decide)
                have h6 : vs 6 = .bool false := hk 6 (by decide)
                simp [Mono.actOf, Mono.deps, Mono.dstOf, Region.binds, Act.put, h9, h6]
                go_simp
                exact hK _ _ (Below.refl _ _) rfl
              · intro vs W hR hk
                have h10 : vs 10 = .bool false := hk 10 (by decide)
                rw [if_pos (by simp [Region.wanted, yielded, Mono.actOf, Mono.deps, Mono.dstOf, Region.binds, Act.put, h10])]
                intro K hK
                simp [Mono.actOf, Mono.deps, Mono.dstOf, Region.binds, Act.put, h10]
                go_simp
                exact hK _ _ (Below.refl _ _) rfl
              · intro vs W hR hk
                have h11 : vs 11 = .pointer (some ⟨wr.heap.size, 0, none⟩) := hk 11 (by decide)
                have h10 : vs 10 = .bool false := hk 10 (by decide)
                have q0 := cell_tr hR q0
                rw [if_pos (by simp [Region.wanted, yielded, Mono.actOf, Mono.deps, Mono.dstOf, Region.binds, Act.put, h11, h10])]
                intro K hK
                simp [Mono.actOf, Mono.deps, Mono.dstOf, Region.binds, Act.put, h11, h10]
                go_simp
                exact hK _ _ (Below.refl _ _) rfl
              · intro vs W hR hk
                have h12 : vs 12 = .int .i64 (k : Int) := hk 12 (by decide)
                have h10 : vs 10 = .bool false := hk 10 (by decide)
                rw [if_pos (by simp [Region.wanted, yielded, Mono.actOf, Mono.deps, Mono.dstOf, Region.binds, Act.put, h12, h10])]
                intro K hK
                simp [Mono.actOf, Mono.deps, Mono.dstOf, Region.binds, Act.put, h12, h10]
                go_simp
                refine (HH6.out _ hR).mono ?_
                rintro e w8 ⟨rfl, hb8⟩
                exact ⟨_, rfl, hK _ _ hb8 rfl⟩
              · intro vs W hR hk
                have h10 : vs 10 = .bool false := hk 10 (by decide)
                rw [if_pos (by simp [Region.wanted, yielded, Mono.actOf, Mono.deps, Mono.dstOf, Region.binds, Act.put, h10])]
                intro K hK
                simp [Mono.actOf, Mono.deps, Mono.dstOf, Region.binds, Act.put, h10]
                go_simp
                exact hK _ _ (Below.refl _ _) rfl
              · intro vs W hR hk
                have h14 : vs 14 = .pointer (some ⟨wr.heap.size, 1, none⟩) := hk 14 (by decide)
                have h10 : vs 10 = .bool false := hk 10 (by decide)
                have q1 := cell_tr hR q1
                rw [if_pos (by simp [Region.wanted, yielded, Mono.actOf, Mono.deps, Mono.dstOf, Region.binds, Act.put, h14, h10])]
                intro K hK
                simp [Mono.actOf, Mono.deps, Mono.dstOf, Region.binds, Act.put, h14, h10]
                go_simp
                exact hK _ _ (Below.refl _ _) rfl
              · intro vs W hR hk
                have h13 : vs 13 = .bool false := hk 13 (by decide)
                have h15 : vs 15 = .bool false := hk 15 (by decide)
                have h10 : vs 10 = .bool false := hk 10 (by decide)
                rw [if_pos (by simp [Region.wanted, yielded, Mono.actOf, Mono.deps, Mono.dstOf, Region.binds, Act.put, h13, h15, h10])]
                intro K hK
                simp [Mono.actOf, Mono.deps, Mono.dstOf, Region.binds, Act.put, h13, h15, h10]
                go_simp
                exact hK _ _ (Below.refl _ _) rfl
              · intro vs W hR hk K hK
                have h10 : vs 10 = .bool false := hk 10 (by decide)
                have h16 : vs 16 = .bool false := hk 16 (by decide)
                simp [Mono.actOf, Mono.deps, Mono.dstOf, Region.binds, Act.put, h10, h16]
                go_simp
                exact hK _ _ (Below.refl _ _) rfl
              · intro vs W hR hk K hK
                have h17 : vs 17 = .bool false := hk 17 (by decide)
                have h13 : vs 13 = .bool false := hk 13 (by decide)
                simp [Mono.actOf, Mono.deps, Mono.dstOf, Region.binds, Act.put, h17, h13]
                go_simp
                exact hK _ _ (Below.refl _ _) rfl
              · intro vs W hR hk
                have h18 : vs 18 = .bool false := hk 18 (by decide)
                rw [if_pos (by simp [Region.wanted, yielded, Mono.actOf, Mono.deps, Mono.dstOf, Region.binds, Act.put, h18])]
                intro K hK
                simp [Mono.actOf, Mono.deps, Mono.dstOf, Region.binds, Act.put, h18]
                go_simp
                refine (HC6.out _ hR).mono ?_
                rintro e w8 ⟨rfl, hb8⟩
                exact ⟨_, rfl, hK _ _ hb8 rfl⟩
              · intro vs W hR hk
                have h18 : vs 18 = .bool false := hk 18 (by decide)
                have ql := cell_tr hR ql
                rw [if_pos (by simp [Region.wanted, yielded, Mono.actOf, Mono.deps, Mono.dstOf, Region.binds, Act.put, h18])]
                intro K hK
                simp [Mono.actOf, Mono.deps, Mono.dstOf, Region.binds, Act.put, h18]
                go_simp
                exact hK _ _ (Below.refl _ _) rfl
              · intro vs W hR hk
                have h20 : vs 20 = .slice A6 n6 c6 := hk 20 (by decide)
                have h18 : vs 18 = .bool false := hk 18 (by decide)
                rw [if_pos (by simp [Region.wanted, yielded, Mono.actOf, Mono.deps, Mono.dstOf, Region.binds, Act.put, h20, h18])]
                intro K hK
                simp [Mono.actOf, Mono.deps, Mono.dstOf, Region.binds, Act.put, h20, h18]
                go_simp
                exact hK _ _ (Below.refl _ _) rfl
              · intro vs W hR hk
                have h19 : vs 19 = .int .i64 (n6 : Int) := hk 19 (by decide)
                have h21 : vs 21 = .int .i64 (n6 : Int) := hk 21 (by decide)
                have h18 : vs 18 = .bool false := hk 18 (by decide)
                rw [if_pos (by simp [Region.wanted, yielded, Mono.actOf, Mono.deps, Mono.dstOf, Region.binds, Act.put, h19, h21, h18])]
                intro K hK
                simp [Mono.actOf, Mono.deps, Mono.dstOf, Region.binds, Act.put, h19, h21, h18]
                go_simp
                exact hK _ _ (Below.refl _ _) rfl
              · intro vs W hR hk K hK
                have h18 : vs 18 = .bool false := hk 18 (by decide)
                have h22 : vs 22 = .bool false := hk 22 (by decide)
                simp [Mono.actOf, Mono.deps, Mono.dstOf, Region.binds, Act.put, h18, h22]
                go_simp
                exact hK _ _ (Below.refl _ _) rfl
            · intro vs W hR hv
              have h23 : vs 23 = .bool false := hv 23 (by decide)
              simp [Mono.fill, Mono.dstOf, Act.put, List.range, List.range.loop, h23]
              replace hR := Lib.hid (HNX.out _ hR)
              clear hv h23
              go_wp2
              go_roundw
              case rel => exact ⟨i + 1, by go_num, by omega, hR⟩
              case measure => simp [intOf]; omega
          | false =>
            have HMIN : Hid (Calls Tryd.prog 9 #[.slice LA Ln Lc, .slice (some ⟨w4.heap.size, 0, none⟩) 1 1] (w4.alloc (.cells #[.int .i64 (k : Int)] 3)) fun e w' => ∃ v, e = .returned v ∧ SliceI w' v (listSet L k false) ∧ Below w4.heap.size w4 w') := by
              refine (refMinus_in (HC4.out.below (below1 _ _)) (xs := L) (ys := [(k : Int)]) ⟨rfl, ints_new w4 [(k : Int)] 3, by simp, by decide⟩ (by have := HL4.out; omega)).mono fun e w' ⟨v, h1, h2, h3⟩ => ⟨v, h1, by rw [minus_ref] at h2; exact h2, below_tr (below1 _ _) h3⟩
            go_upto_region 16 with (go_at_call 9; refine HMIN.out.mono ?_; rintro e w5 ⟨v5, rfl, ⟨A6, n6, c6, rfl, hcut6⟩, hb5⟩; have cl5 := (HI4.out.2.2.2.1.below hb5).cell (j := 0) rfl; have fl5 := (HI4.out.2.2.2.1.below hb5).frozen 0)
            have hI6 := BInv.list (v' := .slice A6 n6 c6) (L' := listSet L k false) HI.out.lo HI4.out.1 HI4.out.2.1 HI4.out.2.2.1 HI4.out.2.2.2.1 HI4.out.2.2.2.2 (fun x e => by cases e) hb5 ⟨A6, n6, c6, rfl, hcut6⟩ HISB.out
            have HI6 := Lib.hid hI6
            have HO6 : Hid (BoxN (w5.setCell ⟨Bk + 1, 0, none⟩ (.slice A6 n6 c6)) wr.heap.size [.int .i64 (k : Int), .bool false] 30) := (HO4.out.below hb5).other (by have := HOB.out; omega) _ _
            have HN6 : Hid (n6 = (listSet L k false).length) := hcut6.1
            clear hI6 hcut6 hb5 cl5 fl5
            generalize (w5.setCell ⟨Bk + 1, 0, none⟩ (.slice A6 n6 c6)) = w6 at HI6 HO6 ⊢
            have HH6 : Hid (∀ W, Below w6.drew.heap.size w6.drew W → Calls Tryd.prog 7 #[.pointer (some ⟨Bk, 0, none⟩), .int .i64 (k : Int)] W fun e w' => e = .returned (.bool false) ∧ Below W.heap.size W w') := fun W hW =>
              (hasn_c ((HI6.out.up (below_dr1 (Below.refl _ _))).up hW).bits k hk).mono fun e w' ⟨h1, h2⟩ => ⟨by rw [h1, HBIT.out], by rw [h2]; exact Below.refl _ _⟩
            have HC6 : Hid (∀ W, Below w6.drew.heap.size w6.drew W → Calls Tryd.prog 10 #[.pointer (some ⟨Bk, 0, none⟩)] W fun e w' => e = .returned (.int .i64 (n6 : Int)) ∧ Below W.heap.size W w') := fun W hW => by
              have hI := (HI6.out.up (below_dr1 (Below.refl _ _))).up hW
              have := count_c hI.bits (hT.out.at (Nat.le_refl _) hI.below) _ hI.isb hI.isb.len
              rw [← HN6.out] at this
              exact this
            have q0 : w6.drew.cell? ⟨wr.heap.size, 0, none⟩ = some (.int .i64 (k : Int)) := HO6.out.cell (j := 0) rfl
            have q1 : w6.drew.cell? ⟨wr.heap.size, 1, none⟩ = some (.bool false) := HO6.out.cell (j := 1) rfl
            have ql : w6.drew.cell? ⟨Bk + 1, 0, none⟩ = some (.slice A6 n6 c6) := HI6.out.boxL.cell (j := 0) rfl
            have HNX : Hid (∀ W, Below w6.drew.heap.size w6.drew W → ∃ W' v L, BInv w stop Bk W W' v L) := fun W hW => ⟨_, _, _, (HI6.out.up (below_dr1 (Below.refl _ _))).up hW⟩
            refine Mono.wp_region_mono (cmpV false false wr.heap.size k n6 c6 A6) (fun W W' => Below W.heap.size W W') (by kernel_rfl) (by kernel_rfl) (fun W => Below.refl _ _) (fun _ _ _ _ _ h => h) (fun a b c => below_tr) ?_ ?_
            · refine ⟨Mono.Step.plain rfl ?_, Mono.Step.plain rfl ?_, Mono.Step.plain rfl ?_, Mono.Step.plain rfl ?_, Mono.Step.plain rfl ?_, Mono.Step.plain rfl ?_, Mono.Step.plain rfl ?_, ?_, ?_, Mono.Step.plain rfl ?_, Mono.Step.plain rfl ?_, ?_, ?_, ?_, ?_, ?_, ?_, Mono.Step.plain rfl ?_, Mono.Step.plain rfl ?_, ?_, ?_, ?_, ?_, Mono.Step.plain rfl ?_, trivial⟩
              · intro vs W hR hk K hK
                simp [Mono.actOf, Mono.deps, Mono.dstOf, Region.binds, Act.put]
                go_simp
                exact hK _ _ (Below.refl _ _) rfl
              · intro vs W hR hk K hK
                simp [Mono.actOf, Mono.deps, Mono.dstOf, Region.binds, Act.put]
                go_simp
                exact hK _ _ (Below.refl _ _) rfl
              · intro vs W hR hk K hK
                simp [Mono.actOf, Mono.deps, Mono.dstOf, Region.binds, Act.put]
                go_simp
                exact hK _ _ (Below.refl _ _) rfl
              · intro vs W hR hk K hK
                have h2 : vs 2 = .pointer (some ⟨wr.heap.size, 1, none⟩) := hk 2 (by decide)
                have q1 := cell_tr hR q1
                simp [Mono.actOf, Mono.deps, Mono.dstOf, Region.binds, Act.put, h2]
                go_simp
                exact hK _ _ (Below.refl _ _) rfl
              · intro vs W hR hk K hK
                have h1 : vs 1 = .bool false := hk 1 (by decide)
                have h3 : vs 3 = .bool false := hk 3 (by decide)
                simp [Mono.actOf, Mono.deps, Mono.dstOf, Region.binds, Act.put, h1, h3]
                go_simp
                exact hK _ _ (Below.refl _ _) rfl
              · intro vs W hR hk K hK
                have h0 : vs 0 = .bool (false != false) := hk 0 (by decide)
                have h4 : vs 4 = .bool (false != false) := hk 4 (by decide)
                simp [Mono.actOf, Mono.deps, Mono.dstOf, Region.binds, Act.put, h0, h4]
                go_simp
                exact hK _ _ (Below.refl _ _) rfl
              · intro vs W hR hk K hK
                have h5 : vs 5 = .bool false := hk 5 (by decide)
                simp [Mono.actOf, Mono.deps, Mono.dstOf, Region.binds, Act.put, h5]
                go_simp
                exact hK _ _ (Below.refl _ _) rfl
              · intro vs W hR hk
                have h6 : vs 6 = .bool false := hk 6 (by decide)
                rw [if_pos (by simp [Region.wanted, yielded, Mono.actOf, Mono.deps, Mono.dstOf, Region.binds, Act.put, h6])]
                intro K hK
                simp [Mono.actOf, Mono.deps, Mono.dstOf, Region.binds, Act.put, h6]
                go_simp
                exact hK _ _ (Below.refl _ _) rfl
              · intro vs W hR hk
                have h7 : vs 7 = .int .i64 0 := hk 7 (by decide)
                have h6 : vs 6 = .bool false := hk 6 (by decide)
                rw [if_pos (by simp [Region.wanted, yielded, Mono.actOf, Mono.deps, Mono.dstOf, Region.binds, Act.put, h7, h6])]
                intro K hK
                simp [Mono.actOf, Mono.deps, Mono.dstOf, Region.binds, Act.put, h7, h6]
                go_simp
                exact hK _ _ (Below.refl _ _) rfl
              · intro vs W hR hk K hK
                have h6 : vs 6 = .bool false := hk 6 (by decide)
                have h8 : vs 8 = .bool false := hk 8 (by decide)
                simp [Mono.actOf, Mono.deps, Mono.dstOf, Region.binds, Act.put, h6, h8]
                go_simp
                exact hK _ _ (Below.refl _ _) rfl
              · intro vs W hR hk K hK
                have h9 : vs 9 = .bool false := hk 9 (by decide)
                have h6 : vs 6 = .bool false := hk 6 (by decide)
                simp [Mono.actOf, Mono.deps, Mono.dstOf, Region.binds, Act.put, h9, h6]
                go_simp
                exact hK _ _ (Below.refl _ _) rfl
              · intro vs W hR hk
                have h10 : vs 10 = .bool false := hk 10 (by decide)
                rw [if_pos (by simp [Region.wanted, yielded, Mono.actOf, Mono.deps, Mono.dstOf, Region.binds, Act.put, h10])]
                intro K hK
                simp [Mono.actOf, Mono.deps, Mono.dstOf, Region.binds, Act.put, h10]
                go_simp
                exact hK _ _ (Below.refl _ _) rfl
              · intro vs W hR hk
                have h11 : vs 11 = .pointer (some ⟨wr.heap.size, 0, none⟩) := hk 11 (by decide)
                have h10 : vs 10 = .bool false := hk 10 (by decide)
                have q0 := cell_tr hR q0
                rw [if_pos (by simp [Region.wanted, yielded, Mono.actOf, Mono.deps, Mono.dstOf, Region.binds, Act.put, h11, h10])]
                intro K hK
                simp [Mono.actOf, Mono.deps, Mono.dstOf, Region.binds, Act.put, h11, h10]
                go_simp
                exact hK _ _ (Below.refl _ _) rfl
              · intro vs W hR hk
                have h12 : vs 12 = .int .i64 (k : Int) := hk 12 (by decide)
                have h10 : vs 10 = .bool false := hk 10 (by decide)
                rw [if_pos (by simp [Region.wanted, yielded, Mono.actOf, Mono.deps, Mono.dstOf, Region.binds, Act.put, h12, h10])]
                intro K hK
                simp [Mono.actOf, Mono.deps, Mono.dstOf, Region.binds, Act.put, h12, h10]
                go_simp
                refine (HH6.out _ hR).mono ?_
                rintro e w8 ⟨rfl, hb8⟩
                exact ⟨_, rfl, hK _ _ hb8 rfl⟩
              · intro vs W hR hk
                have h10 : vs 10 = .bool false := hk 10 (by decide)
                rw [if_pos (by simp [Region.wanted, yielded, Mono.actOf, Mono.deps, Mono.dstOf, Region.binds, Act.put, h10])]
                intro K hK
                simp [Mono.actOf, Mono.deps, Mono.dstOf, Region.binds, Act.put, h10]
                go_simp
                exact hK _ _ (Below.refl _ _) rfl
              · intro vs W hR hk
                have h14 : vs 14 = .pointer (some ⟨wr.heap.size, 1, none⟩) := hk 14 (by decide)
                have h10 : vs 10 = .bool false := hk 10 (by decide)
                have q1 := cell_tr hR q1
                rw [if_pos (by simp [Region.wanted, yielded, Mono.actOf, Mono.deps, Mono.dstOf, Region.binds, Act.put, h14, h10])]
                intro K hK
                simp [Mono.actOf, Mono.deps, Mono.dstOf, Region.binds, Act.put, h14, h10]
                go_simp
                exact hK _ _ (Below.refl _ _) rfl
              · intro vs W hR hk
                have h13 : vs 13 = .bool false := hk 13 (by decide)
                have h15 : vs 15 = .bool false := hk 15 (by decide)
                have h10 : vs 10 = .bool false := hk 10 (by decide)
                rw [if_pos (by simp [Region.wanted, yielded, Mono.actOf, Mono.deps, Mono.dstOf, Region.binds, Act.put, h13, h15, h10])]
                intro K hK
                simp [Mono.actOf, Mono.deps, Mono.dstOf, Region.binds, Act.put, h13, h15, h10]
                go_simp
                exact hK _ _ (Below.refl _ _) rfl
              · intro vs W hR hk K hK
                have h10 : vs 10 = .bool false := hk 10 (by decide)
                have h16 : vs 16 = .bool false := hk 16 (by decide)
                simp [Mono.actOf, Mono.deps, Mono.dstOf, Region.binds, Act.put, h10, h16]
                go_simp
                exact hK _ _ (Below.refl _ _) rfl
              · intro vs W hR hk K hK
                have h17 : vs 17 = .bool false := hk 17 (by decide)
                have h13 : vs 13 = .bool false := hk 13 (by decide)
                simp [Mono.actOf, Mono.deps, Mono.dstOf, Region.binds, Act.put, h17, h13]
                go_simp
                exact hK _ _ (Below.refl _ _) rfl
              · intro vs W hR hk
                have h18 : vs 18 = .bool false := hk 18 (by decide)
                rw [if_pos (by simp [Region.wanted, yielded, Mono.actOf, Mono.deps, Mono.dstOf, Region.binds, Act.put, h18])]
                intro K hK
                simp [Mono.actOf, Mono.deps, Mono.dstOf, Region.binds, Act.put, h18]
                go_simp
                refine (HC6.out _ hR).mono ?_
                rintro e w8 ⟨rfl, hb8⟩
                exact ⟨_, rfl, hK _ _ hb8 rfl⟩
              · intro vs W hR hk
                have h18 : vs 18 = .bool false := hk 18 (by decide)
                have ql := cell_tr hR ql
                rw [if_pos (by simp [Region.wanted, yielded, Mono.actOf, Mono.deps, Mono.dstOf, Region.binds, Act.put, h18])]
                intro K hK
                simp [Mono.actOf, Mono.deps, Mono.dstOf, Region.binds, Act.put, h18]
                go_simp
                exact hK _ _ (Below.refl _ _) rfl
              · intro vs W hR hk
                have h20 : vs 20 = .slice A6 n6 c6 := hk 20 (by decide)
                have h18 : vs 18 = .bool false := hk 18 (by decide)
                rw [if_pos (by simp [Region.wanted, yielded, Mono.actOf, Mono.deps, Mono.dstOf, Region.binds, Act.put, h20, h18])]
                intro K hK
                simp [Mono.actOf, Mono.deps, Mono.dstOf, Region.binds, Act.put, h20, h18]
                go_simp
                exact hK _ _ (Below.refl _ _) rfl
              · intro vs W hR hk
                have h19 : vs 19 = .int .i64 (n6 : Int) := hk 19 (by decide)
                have h21 : vs 21 = .int .i64 (n6 : Int) := hk 21 (by decide)
                have h18 : vs 18 = .bool false := hk 18 (by decide)
                rw [if_pos (by simp [Region.wanted, yielded, Mono.actOf, Mono.deps, Mono.dstOf, Region.binds, Act.put, h19, h21, h18])]
                intro K hK
                simp [Mono.actOf, Mono.deps, Mono.dstOf, Region.binds, Act.put, h19, h21, h18]
                go_simp
                exact hK _ _ (Below.refl _ _) rfl
              · intro vs W hR hk K hK
                have h18 : vs 18 = .bool false := hk 18 (by decide)
                have h22 : vs 22 = .bool false := hk 22 (by decide)
                simp [Mono.actOf, Mono.deps, Mono.dstOf, Region.binds, Act.put, h18, h22]
                go_simp
                exact hK _ _ (Below.refl _ _) rfl
            · intro vs W hR hv
              have h23 : vs 23 = .bool false := hv 23 (by decide)
              simp [Mono.fill, Mono.dstOf, Act.put, List.range, List.range.loop, h23]
              replace hR := Lib.hid (HNX.out _ hR)
              clear hv h23
              go_wp2
              go_roundw
              case rel => exact ⟨i + 1, by go_num, by omega, hR⟩
              case measure => simp [intOf]; omega
    · have hi1 : ¬ (i : Int) < (N : Int) := by omega
      have HW : Hid (Below wr.heap.size wr (wr.alloc (.cells #[.int .i64 0] 3))) := below1 _ _
      have HALL := Lib.hid (all_c ((HI.out.up HW.out).bits))
      clear hi hin hln hwf
      go_wp2_with (go_at_call 11; refine HALL.out.mono ?_; rintro e w3 ⟨rfl, hbx, hb3⟩)
      have HB3 : Hid (Below wr.heap.size wr w3 ∧ BoxN w3 wr.heap.size [.int .i64 0] 3 ∧ wr.heap.size + 1 < w3.heap.size) := by
        have h1 := (boxN_alloc wr [.int .i64 0] 3).below hb3
        have h3 := hbx.lt
        simp only [World.size_alloc] at h3
        exact ⟨below_tr HW.out hb3, h1, h3⟩
      replace hbx := Lib.hid hbx
      simp only [World.size_alloc] at hbx
      clear hb3 HALL HW
      have HL := Lib.hid HI.out.isb.len
      obtain ⟨LA, Ln, Lc, hv, hcut⟩ := HI.out.sl
      subst hv
      have hLn : L.length = Ln := hcut.1.symm
      replace hcut := Lib.hid hcut
      have HLT : Hid (w.heap.size + 1 < wr.heap.size ∧ Bk + 1 < wr.heap.size) := ⟨HI.out.boxR.lt, HI.out.boxL.lt⟩
      refine (wpIn_wide (n := 6)).1 ?_
      refine wpIn_rangeFunc_ownF rfl (by decide) (gf := 17) (lb := #[.pointer (some ⟨wr.heap.size + 1, 0, none⟩)]) rfl trivial (enters_of Tryd.func17 (by kernel_rfl) rfl)
        (all_stops _ (wr.heap.size + 1) wr.heap.size W HI.out.bits.lt L HI.out.isb wr w3 (hT.out.at (Nat.le_refl _) HI.out.below) rfl HB3.out.1 hbx.out) belowK_t (belowK_b HB3.out.1.size) (Below.refl _ _) (fun _ => rfl)
        (fun pre W' => ((W'.cell? ⟨wr.heap.size, 0, none⟩ = some (.int .i64 (pre.length : Int)) ∧ W'.frozen? ⟨wr.heap.size, 0, none⟩ = false) ∧ pre <+: L) ∧ Below wr.heap.size wr W')
        (fun c pre W' => (c = .exit 2 ∧ pre <+: L ∧ (pre.length : Int) = stop ∧ W'.cell? ⟨wr.heap.size, 0, none⟩ = some (.int .i64 (pre.length : Int)) ∧ Below wr.heap.size wr W') ∨ ¬ pre <+: L)
        ?ownI ?ownX
        ⟨⟨⟨HB3.out.2.1.cell (j := 0) rfl, HB3.out.2.1.frozen 0⟩, List.nil_prefix⟩, HB3.out.1⟩
        ?a1 ?assign ?body ?done ?stop
      case assign =>
        intro l x W' K hK
        gi_wp2
        exact hK
      case ownI => exact OwnFrom.and (Own.from (fun s A B row hs hg hr => ⟨⟨cell_kept hs.1.1 hg hr, (frozen_kept hs.1.1 hg hr).trans hs.1.2⟩, hs.2⟩) _) (ownFrom_below (Nat.le_refl _) HB3.out.1.size)
      case ownX =>
        intro c s A B row hs hg hr
        rcases hs with ⟨h1, h2, h3, h4, h5⟩ | h6
        · refine .inl ⟨h1, h2, h3, cell_kept h4 hg (fun r e => (hr r e).2), h5.grown hg h5.size (fun k e => Nat.le_trans HB3.out.1.size (hr k e).1)⟩
        · exact .inr h6
      case body =>
        rename_i Q1 K2 Q0 K1 a1 K0 a0
        clear a0 a1 K0 K1 Q0 K2
        rintro l pre x W' ⟨⟨⟨hc, hf⟩, hpre⟩, hB⟩ hlt2
        have c3 : W'.cell? ⟨w.heap.size, 0, none⟩ = some (.int .i64 stop) := cell_tr hB (HI.out.boxS.cell (j := 0) rfl)
        have c4 : W'.cell? ⟨w.heap.size + 1, 0, none⟩ = some (.bool false) := cell_tr hB (HI.out.boxR.cell (j := 0) rfl)
        have f4 : W'.frozen? ⟨w.heap.size + 1, 0, none⟩ = false := (HI.out.boxR.below hB).frozen 0
        have c7 : W'.cell? ⟨Bk + 1, 0, none⟩ = some (.slice LA Ln Lc) := cell_tr hB (HI.out.boxL.cell (j := 0) rfl)
        obtain ⟨lb, lo, rfl, hcl⟩ := (hcut.out.2.1.below hB).cell hlt2
        have hHL := HL.out
        have hlt3 : (pre.length : Int) < (Ln : Int) := by omega
        have hl2 : (pre.length : Int) < 65536 := by omega
        have hx0 : L[pre.length] = x → pre ++ [x] <+: L := fun e => by
          obtain ⟨rest, hrest⟩ := hpre
          have : rest[0]? = some x := by
            have h1 : L[pre.length]? = some x := by rw [List.getElem?_eq_getElem hlt2, e]
            rw [← hrest, List.getElem?_append_right (Nat.le_refl _), Nat.sub_self] at h1
            exact h1
          cases rest with
          | nil => cases this
          | cons y rest =>
            rw [List.getElem?_cons_zero] at this
            cases this
            exact ⟨rest, by rw [← hrest]; simp⟩
        have hx1 : L[pre.length] ≠ x → ¬ pre ++ [x] <+: L := fun e hp => by
          obtain ⟨rest, hrest⟩ := hp
          apply e
          have h1 : L[pre.length]? = some x := by rw [← hrest]; simp
          rw [List.getElem?_eq_getElem hlt2] at h1
          exact Option.some.inj h1
        generalize L[pre.length] = y at hcl hx0 hx1
        obtain ⟨pn, hpn⟩ : ∃ pn, pre.length = pn := ⟨_, rfl⟩
        have hpl : (pre ++ [x]).length = pn + 1 := by rw [List.length_append, hpn]; rfl
        rw [hpn] at hc hcl hlt3 hl2
        have hpn0 : (0 : Int) ≤ (pn : Int) := by omega
        replace hpn := Lib.hid hpn
        replace hpl := Lib.hid hpl
        replace hpre := Lib.hid hpre
        by_cases hyx : y = x
        · subst hyx
          have HP := Lib.hid (hx0 rfl)
          clear hx0 hx1 hlt2 HL
          replace hcut := Lib.hid hcut.out
          have HC1 : Hid ((W'.setCell ⟨wr.heap.size, 0, none⟩ (.int .i64 ((pn : Int) + 1))).cell? ⟨wr.heap.size, 0, none⟩ = some (.int .i64 ((pre ++ [y]).length : Int))) := by
            rw [hpl.out]
            exact World.cell?_setCell_same' _ _ _ (by rw [hc]; rfl)
          have HBB := Lib.hid (hB.setCell (p := ⟨wr.heap.size, 0, none⟩) (Nat.le_refl _) (.int .i64 ((pn : Int) + 1)))
          have hl5 := HLT.out.1
          have hne3 : w.heap.size ≠ wr.heap.size := by omega
          by_cases hst : ((pn : Int) + 1) = stop
          · skip
            subst hst
            gi_wp2
            exact ⟨KeepsOthers.setCell _ _ _, .inl ⟨rfl, HP.out, by rw [hpl.out]; omega, HC1.out, HBB.out⟩⟩
          · skip
            gi_wp2
            exact ⟨KeepsOthers.setCell _ _ _, (Below.refl wr.heap.size W').setCell (p := ⟨wr.heap.size, 0, none⟩) (Nat.le_refl _) _, ⟨⟨HC1.out, by rw [World.frozen?_setCell]; exact hf⟩, HP.out⟩, HBB.out⟩
        · have HP := Lib.hid (hx1 hyx)
          have hB2 : ((y : Int) != x) = true := by simpa using hyx
          skip
          gi_wp2
          exact ⟨KeepsOthers.setCell _ _ _, .inr HP.out⟩
      case done =>
        rintro D ys W' hD rfl ⟨⟨⟨hc, _⟩, _⟩, hB⟩ hK
        have hsz := HB3.out.1.size
        have hl5 := HLT.out.1
        have c3 : W'.cell? ⟨w.heap.size, 0, none⟩ = some (.int .i64 stop) := cell_tr hB (HI.out.boxS.cell (j := 0) rfl)
        have c4 : W'.cell? ⟨w.heap.size + 1, 0, none⟩ = some (.bool false) := cell_tr hB (HI.out.boxR.cell (j := 0) rfl)
        have f4 : W'.frozen? ⟨w.heap.size + 1, 0, none⟩ = false := (HI.out.boxR.below hB).frozen 0
        have c7 : W'.cell? ⟨Bk + 1, 0, none⟩ = some (.slice LA Ln Lc) := cell_tr hB (HI.out.boxL.cell (j := 0) rfl)
        rw [hLn] at hc
        have HBB : Hid (Below w.heap.size w W') := HI.out.below.trans (below_to hB HI.out.below.size)
        go_wp2
        have hK' := (KeepsOthers.setCell W' ⟨w.heap.size + 1, 0, none⟩ (.bool true)).same D _ hK rfl
        refine ⟨by simp, .inl ⟨_, _, rfl, run_takeDeferred hK', ?_⟩⟩
        have hc5 := cell_kept (World.cell?_setCell_same' W' ⟨w.heap.size + 1, 0, none⟩ (.bool true) (by rw [c4]; rfl)) (grownBy_putObj' _ D (.deferred none)) (fun r e => by cases e; exact ⟨_, hK', rfl⟩)
        refine ⟨.bool true, ?_, rfl, (HBB.out.setCell (p := ⟨w.heap.size + 1, 0, none⟩) (by simp) _).trans (belowK_b (w := w) (Nat.le_refl _) _ D _ _ (by omega) hK' rfl rfl)⟩
        simp [results, Tryd.results3, go_sem, hc5]
      case stop =>
        rintro D c pre W' hD hSp hX hK
        rcases hX with ⟨rfl, _, hst, hc, hB⟩ | hX
        · have hsz := HB3.out.1.size
          have hl5 := HLT.out.1
          have c3 : W'.cell? ⟨w.heap.size, 0, none⟩ = some (.int .i64 stop) := cell_tr hB (HI.out.boxS.cell (j := 0) rfl)
          have c4 : W'.cell? ⟨w.heap.size + 1, 0, none⟩ = some (.bool false) := cell_tr hB (HI.out.boxR.cell (j := 0) rfl)
          have f4 : W'.frozen? ⟨w.heap.size + 1, 0, none⟩ = false := (HI.out.boxR.below hB).frozen 0
          have c7 : W'.cell? ⟨Bk + 1, 0, none⟩ = some (.slice LA Ln Lc) := cell_tr hB (HI.out.boxL.cell (j := 0) rfl)
          rw [hst] at hc
          have HBB : Hid (Below w.heap.size w W') := HI.out.below.trans (below_to hB HI.out.below.size)
          refine wpIn_wide.2 ?_
          go_wp2
          all_goals
            have hK' := (KeepsOthers.setCell W' ⟨w.heap.size + 1, 0, none⟩ (.bool true)).same D _ hK rfl
            refine ⟨by simp, .inl ⟨_, _, rfl, run_takeDeferred hK', ?_⟩⟩
            have hc5 := cell_kept (World.cell?_setCell_same' W' ⟨w.heap.size + 1, 0, none⟩ (.bool true) (by rw [c4]; rfl)) (grownBy_putObj' _ D (.deferred none)) (fun r e => by cases e; exact ⟨_, hK', rfl⟩)
            refine ⟨.bool true, ?_, rfl, (HBB.out.setCell (p := ⟨w.heap.size + 1, 0, none⟩) (by simp) _).trans (belowK_b (w := w) (Nat.le_refl _) _ D _ _ (by omega) hK' rfl rfl)⟩
            simp [results, Tryd.results3, go_sem, hc5]
        · exact absurd hSp hX
end Go.Proofs.YtieahneoofdneaaDoor
