/-
  SatPlants: the walk. Helper text; the conditions are those typed.
-/
import Derived.Test.YtkeagjphddcjeaaSolT
namespace Go.Proofs.Ytkeagjphddcjeaa
set_option linter.unusedVariables false
set_option linter.unusedSimpArgs false
open Go.RowKit Go.Maps Sat

set_option maxHeartbeats 8000000 in
set_option maxRecDepth 100000 in
theorem plants_walk {w : World} (a0 : Option Addr) (n c0 : Nat) (hn : n ≤ 9223372036854775807) {va : Asg} {vl vp : Value} {ls : List (List Int)} {pr : List Int} (hu : BoolsV w (.slice a0 n c0) (bsOf n va)) (hl : RowsV w vl ls) (hr : Rng ls) (hp : IntsV w vp pr) (hpr : ∀ x ∈ pr, -9223372036854775808 ≤ x ∧ x < 9223372036854775808) :
    Calls Try.prog 5 #[.slice a0 n c0, vl, vp] w fun e w' => e = .returned (.bool true) ∧ Below w.heap.size w w' := by
  have HA := Lib.hid awake_c
  have HRV := Lib.hid hl
  have HUV := Lib.hid hu
  have HRG := Lib.hid hr
  have HPR := Lib.hid hpr
  obtain ⟨ap, cp, rfl, hcp, hints⟩ := hp
  obtain ⟨P, hP⟩ : ∃ P, pr.length = P := ⟨_, rfl⟩
  have HIN : Hid (∀ k, k < P → ∃ b o x, ap = some ⟨b, o, none⟩ ∧ pr[k]? = some x ∧ w.cell? ⟨b, o + k, none⟩ = some (.int .i64 x)) := fun k hk => by
    have hk' : k < pr.length := by omega
    rcases hints with h | ⟨b, o, h1, _, h3⟩
    · rw [h] at hk'; cases hk'
    · refine ⟨b, o, pr[k], h1, List.getElem?_eq_getElem hk', ?_⟩
      have := h3 k hk'
      rw [List.getD, List.getElem?_eq_getElem hk'] at this
      exact this
  rw [hP] at hcp ⊢
  have HP := Lib.hid hP
  clear hl hr hpr hints hP hu
  by_cases h0 : n = 0
  · have e0 : ((n : Int) == 0) = true := by simp [h0]
    clear h0
    go_enter Try.func5, Try.ntmps5
    go_wp2_with (go_at_call 11; refine (HA.out _).mono ?_; rintro e w1 ⟨rfl, hb⟩; have HB1 := Lib.hid hb; clear hb)
    go_ret
    exact ⟨rfl, HB1.out⟩
  · have e0 : ((n : Int) == 0) = false := by
      rw [beq_eq_false_iff_ne]
      omega
    by_cases h40 : n > 40
    · have h41 : (40 : Int) < (n : Int) := by omega
      clear h0
      go_enter Try.func5, Try.ntmps5
      go_wp2_with (go_at_call 11; refine (HA.out _).mono ?_; rintro e w1 ⟨rfl, hb⟩; have HB1 := Lib.hid hb; clear hb)
      go_ret
      exact ⟨rfl, HB1.out⟩
    · have h41 : ¬ (40 : Int) < (n : Int) := by omega
      have hn1 : 1 ≤ n := by omega
      have hn4 : n ≤ 400 := by omega
      have hn40 : n ≤ 40 := by omega
      have HFD := Lib.hid (fun (W : World) (hb : Below w.heap.size w W) => folded_c (most := 150) hn1 hn4 (by omega) (HRV.out.below hb) HRG.out)
      have HPD := Lib.hid (fun (W : World) (hb : Below w.heap.size w W) (vx : Value) (hx : RowsV W vx (foldL n ls 150)) => planted_c hn4 (HUV.out.below hb) hx (Nat.le_trans (foldL_len _ _ _) (by omega)) foldL_short (foldL_ok hn1))
      have HF := Lib.hid (fun (l : Int) (h0 : -9223372036854775808 ≤ l) (h1 : l < 9223372036854775808) (w : World) => fold_c hn1 hn4 h0 h1 w)
      clear h0 h40
      go_enter Try.func5, Try.ntmps5
      go_upto_region 5 with (go_at_call 11; refine (HA.out _).mono ?_; rintro e w1 ⟨rfl, hb⟩; have HB1 := Lib.hid hb; clear hb)
      have HFD1 := Lib.hid (HFD.out w1 HB1.out)
      go_wp2_with fail
      refine HFD1.out.mono ?_
      rintro e w1b ⟨vK, rfl, hmade, hb1b⟩
      have HB1b : Hid (Below w.heap.size w w1b) := below_tr HB1.out hb1b
      have HPD1 := Lib.hid (HPD.out w1b HB1b.out vK hmade.rows)
      clear hmade hb1b HFD HPD HFD1
      go_wp2_with fail
      refine HPD1.out.mono ?_
      rintro e w2 ⟨vL, rfl, hmade, hb2⟩
      have HB2 : Hid (Below w.heap.size w w2) := below_tr HB1b.out hb2
      have HL2 : Hid (MadeR w1b.heap.size w2 vL (plantL va (foldL n ls 150))) := hmade
      clear hmade hb2 HPD1
      go_upto_region 6 with fail
      go_upto_block 0 with fail
      go_cut [10] from 33 (fun v10 wx => ∃ vc : Value, vc = v10 ∧ Hid (OwnI w2 vc ((pr.take 60).map (foldZ n)) wx))
      case first =>
        go_wp2_with fail
        go_loopg [10, 11] 60 (fun gk v10 v11 wx => ∃ (k : Nat) (vc : Value), vc = v10 ∧ v11 = .int .i64 (k : Int) ∧ k ≤ P ∧ k ≤ 60 ∧ 60 ≤ k + gk ∧ Hid (OwnI w2 vc ((pr.take k).map (foldZ n)) wx))
        case atStart => exact ⟨0, _, rfl, rfl, by omega, by omega, by omega, OwnI.nil _⟩
        case round =>
          obtain ⟨gJ, rfl⟩ : ∃ x : Nat, x = gk := ⟨_, rfl⟩
          obtain ⟨k, vc, rfl, rfl, hkf, hk4, hkk, HO⟩ := hrel
          obtain ⟨w4, hw4⟩ : ∃ w4, wr = w4 := ⟨_, rfl⟩
          rw [hw4] at HO ⊢
          clear hw4
          have HBW : Hid (Below w.heap.size w w4) := below_tr HB2.out (below_to HO.out.2 (Nat.le_refl _))
          by_cases hk : k < P
          · have hk1 : (k : Int) < (P : Int) := by omega
            by_cases hk2 : k < 60
            · have hk3 : (k : Int) < 60 := by omega
              obtain ⟨b, o, x, hfa, hx, hcx⟩ := HIN.out k hk
              have c2 := cell_tr HBW.out hcx
              have hxr := HPR.out x (List.mem_of_getElem? hx)
              have HX := Lib.hid hx
              have HF2 := Lib.hid (HF.out x hxr.1 hxr.2 w4)
              subst hfa
              clear hcx hx hxr
              obtain ⟨z, hz⟩ : ∃ z, foldZ n x = z := ⟨_, rfl⟩
              rw [hz] at HF2
              have HZ := Lib.hid hz
              clear hz
              have HOW : Hid (∀ o, OwnI w2 vc ((pr.take k).map (foldZ n)) (w4.alloc o)) := fun o => HO.out.below (below1 _ _)
              have HI : Hid (IntsV (w4.alloc (.cells #[.int .i64 z] 3)) (.slice (some ⟨w4.heap.size, 0, none⟩) 1 1) [z]) := ones (w := w4) (zs := [z]) rfl (Below.refl _ _) rfl
              have HL : Hid ((((pr.take k).map (foldZ n)).length + 1) * 8 ≤ 140737488355328) := by
                show (((pr.take k).map (foldZ n)).length + 1) * 8 ≤ 140737488355328
                have := List.length_take_le k pr
                rw [List.length_map]
                omega
              go_wp2_with (first
                | (go_at_call 23; refine HF2.out.mono ?_; rintro e w5 ⟨rfl, rfl⟩)
                | (at_builtin; refine wpList_appI rfl (.tmp 43) (.tmp 50) rfl rfl rfl (HOW.out _) HI.out HL.out ?_; intro v9 w9 ho9 hg9; replace ho9 := Lib.hid ho9; clear hg9))
              go_roundg (gJ - 1)
              case measure => omega
              case rel => exact ⟨k + 1, _, rfl, by go_num, by omega, by omega, by omega, by
                show OwnI _ _ ((pr.take (k + 1)).map (foldZ n)) _
                rw [fold_snoc HX.out, HZ.out]
                exact ho9.out⟩
            · have hk3 : ¬ (k : Int) < 60 := by omega
              have e : pr.take k = pr.take 60 := by rw [show k = 60 from by omega]
              have HE : Hid (OwnI w2 vc ((pr.take 60).map (foldZ n)) w4) := by
                rw [← e]
                exact HO.out
              clear e
              go_wp2_with fail
              go_meet
              case rel => exact ⟨_, rfl, HE.out⟩
          · have hk3 : ¬ (k : Int) < (P : Int) := by omega
            have e : pr.take k = pr.take 60 := by rw [List.take_of_length_le (by rw [HP.out]; omega), List.take_of_length_le (by rw [HP.out]; omega)]
            have HE : Hid (OwnI w2 vc ((pr.take 60).map (foldZ n)) w4) := by
              rw [← e]
              exact HO.out
            clear e
            go_wp2_with fail
            go_meet
            case rel => exact ⟨_, rfl, HE.out⟩
      case rest =>
        obtain ⟨vp, rfl, HVP⟩ := hcut
        obtain ⟨w3, rfl⟩ : ∃ w3 : World, w3 = wc := ⟨_, rfl⟩
        have HB3 : Hid (Below w.heap.size w w3) := below_tr HB2.out HVP.out.2
        have HL3 : Hid (MadeR w1b.heap.size w3 vL (plantL va (foldL n ls 150))) := HL2.out.below HVP.out.2
        obtain ⟨fs, hfs⟩ : ∃ fs, plantL va (foldL n ls 150) = fs := ⟨_, rfl⟩
        have HFS : Hid ((∀ c ∈ fs, ∀ x ∈ c, Lok n x) ∧ fs.length ≤ 150 ∧ (∀ c ∈ fs, c.length ≤ 4) ∧ sat va fs) := by
          rw [← hfs]
          refine ⟨fun c hc => ?_, Nat.le_trans (plantL_len _ _) (foldL_len _ _ _), fun c hc => ?_, plant_sat (foldL_ok hn1)⟩
          · obtain ⟨d, hd, rfl, _⟩ := plant_mem hc
            exact plantC_ok (foldL_ok hn1 d hd)
          · obtain ⟨d, hd, rfl, _⟩ := plant_mem hc
            rw [plantC_len]
            exact foldL_short d hd
        rw [hfs] at HL3
        obtain ⟨ps, hps⟩ : ∃ ps, (pr.take 60).map (foldZ n) = ps := ⟨_, rfl⟩
        have HPS : Hid ((∀ x ∈ ps, Lok n x) ∧ ps.length ≤ 60) := by
          rw [← hps]
          refine ⟨fun x hx => ?_, ?_⟩
          · obtain ⟨y, _, rfl⟩ := List.mem_map.1 hx
            exact foldZ_ok hn1 y
          · rw [List.length_map]
            exact List.length_take_le _ _
        rw [hps] at HVP
        have hp : 2 ^ n ≤ 2 ^ 40 := Nat.pow_le_pow_right (by omega) hn40
        have h2 : (2 : Nat) ^ 40 = 1099511627776 := by decide
        have HS1 : Hid (Calls Try.prog 14 #[.int .i64 (n : Int), vL, vp] w3 (SolvePost w3 n fs ps)) :=
          solve_c (n := n) hn4 HL3.out.rows HVP.out.ints (Nat.le_trans HFS.out.2.1 (by omega)) (fun c hc => Nat.le_trans (HFS.out.2.2.1 c hc) (by omega)) (Nat.le_trans HPS.out.2 (by omega)) (litsB_ok.2 ⟨HFS.out.1, HPS.out.1⟩) (.inl (by have := HFS.out.2.1; omega))
        have HUV3 : Hid (BoolsV w3 (.slice a0 n c0) (bsOf n va)) := HUV.out.below HB3.out
        obtain ⟨ap2, np, cp2, hvp, hnp⟩ : ∃ (a : Option Addr) (m c : Nat), vp = .slice a m c ∧ m = ps.length := by
          obtain ⟨a, c, e⟩ := ownsRow_slice HVP.out.1
          exact ⟨a, _, c, e, rfl⟩
        subst hvp
        have HNP := Lib.hid hnp
        clear hp h2 hps hfs hnp HL2
        go_wp2_with fail
        refine HS1.out.mono ?_
        rintro e w5 ⟨hb5, hres⟩
        rcases hres with ⟨gv, x, rfl, _, hbox, hbest⟩ | ⟨_, hun⟩
        · have HBX := Lib.hid (BoolsV.box hbox)
          have HBE := Lib.hid hbest
          have HB5 : Hid (Below w.heap.size w w5) := below_tr HB3.out hb5
          have HA5 := Lib.hid (all_c HBX.out hn4 (HL3.out.below hb5).rows (Nat.le_trans HFS.out.2.1 (by omega)) (fun c hc => Nat.le_trans (HFS.out.2.2.1 c hc) (by omega)) HFS.out.1)
          rw [allB_sat.2 hbest.1] at HA5
          have HUV5 : Hid (BoolsV w5 (.slice a0 n c0) (bsOf n va)) := HUV3.out.below hb5
          have HVP5 : Hid (OwnI w2 (.slice ap2 np cp2) ps w5) := HVP.out.below hb5
          have enn : ((n : Int) != (n : Int)) = false := by simp
          clear hbox hbest hb5 HS1
          cases ps with
          | nil =>
            have e0 : np = 0 := HNP.out
            subst e0
            go_wp2_with (go_at_call 24; refine HA5.out.mono ?_; rintro e w6 ⟨rfl, rfl⟩)
            go_ret
            exact ⟨rfl, HB5.out⟩
          | cons p0 pt =>
            obtain ⟨g, c8, hv, hc0, _, _, _⟩ := HVP5.out.head
            obtain ⟨e1, e2⟩ : ap2 = some ⟨g, 0, none⟩ ∧ np = pt.length + 1 := by
              cases hv
              exact ⟨rfl, rfl⟩
            have hnp1 : (0 : Int) < (np : Int) := by omega
            have hnp2 : 0 < np := by omega
            clear hv e2
            subst e1
            have hok := HPS.out.1 p0 (List.mem_cons_self ..)
            have HLX := Lib.hid (lit_c HBX.out hn4 hok)
            have HLU := Lib.hid (lit_c HUV5.out hn4 hok)
            have HFI : Hid (litB va p0 = true → litB x p0 = true) := best_first HBE.out hok HFS.out.2.2.2
            obtain ⟨z1, hz1⟩ : ∃ z, litB x p0 = z := ⟨_, rfl⟩
            obtain ⟨z2, hz2⟩ : ∃ z, litB va p0 = z := ⟨_, rfl⟩
            rw [hz1] at HLX
            rw [hz2] at HLU
            rw [hz1, hz2] at HFI
            clear hz1 hz2 hok
            cases z2 with
            | false =>
              go_wp2_with (go_at_call 24; refine HA5.out.mono ?_; rintro e w6 ⟨rfl, rfl⟩)
              refine HLX.out.mono ?_
              rintro e w6 ⟨rfl, rfl⟩
              go_wp2_with fail
              refine HLU.out.mono ?_
              rintro e w6 ⟨rfl, rfl⟩
              go_wp2_with fail
              go_ret
              exact ⟨rfl, HB5.out⟩
            | true =>
              have e1 : z1 = true := HFI.out rfl
              subst e1
              go_wp2_with (go_at_call 24; refine HA5.out.mono ?_; rintro e w6 ⟨rfl, rfl⟩)
              refine HLX.out.mono ?_
              rintro e w6 ⟨rfl, rfl⟩
              go_wp2_with fail
              refine HLU.out.mono ?_
              rintro e w6 ⟨rfl, rfl⟩
              go_wp2_with fail
              go_ret
              exact ⟨rfl, HB5.out⟩
        · exact absurd HFS.out.2.2.2 (hun va)
end Go.Proofs.Ytkeagjphddcjeaa
