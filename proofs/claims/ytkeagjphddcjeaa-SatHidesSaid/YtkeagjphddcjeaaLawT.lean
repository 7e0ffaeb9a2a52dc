/-
  SatTurns: the walk. Helper text; the conditions are those typed.
-/
import Derived.Test.YtkeagjphddcjeaaSolR
import Derived.Test.YtkeagjphddcjeaaSatTurn
import Derived.Deep.RegionHeld3
import Derived.Deep.DrawnRows
namespace Go.Proofs.Ytkeagjphddcjeaa
set_option linter.unusedVariables false
set_option linter.unusedSimpArgs false
open Go.RowKit Go.Maps Sat

theorem MadeR.form {B : Nat} {w : World} {v : Value} {ls : List (List Int)} (h : MadeR B w v ls) : ∃ a c, v = .slice a ls.length c ∧ ∀ i l, ls[i]? = some l → ∃ g x n c', a = some ⟨g, 0, none⟩ ∧ w.cell? ⟨g, i, none⟩ = some (.slice x n c') ∧ IntsV w (.slice x n c') l := by
  obtain ⟨vals, hv, ho, hi⟩ := h
  rcases ownsRow_form ho with ⟨rfl, h0⟩ | ⟨g, cap, rfl, h1, _⟩
  · exact ⟨none, 0, by rw [h0], fun i l hl => by
      have := (List.getElem?_eq_some_iff.1 hl).1
      omega⟩
  · refine ⟨_, cap, rfl, fun i l hl => ?_⟩
    have h2 := (List.getElem?_eq_some_iff.1 hl).1
    have h3 : i < vals.length := by omega
    obtain ⟨h4, _⟩ := hi i vals[i] l (List.getElem?_eq_getElem h3) hl
    have h4' := h4
    obtain ⟨x, c', e, _, _⟩ := h4'
    have h5 := ownsRow_cell ho (List.getElem?_eq_getElem h3)
    rw [e] at h4 h5
    exact ⟨g, x, _, c', rfl, h5, h4⟩

theorem step_appI {w0 w : World} {ops : Array Oper} {o : Oper} {a : Act} {K : Act → World → Prop} {Q : Exit → Act → World → Prop} {E : Prop} (hgd : o.guard = none) (s x : Operand)
    (ho : o.op = .call { callee := .builtin .append, args := #[s, x], argTypes := #[24, 24] })
    (v y : Value) (hs : a.eval s = v) (hx : a.eval x = y) (xs zs : List Int) (hown : OwnI w0 v xs w) (hy : IntsV w y zs) (hlim : (xs.length + zs.length) * 8 ≤ 140737488355328)
    (h : ∀ v' w', OwnI w0 v' (xs ++ zs) w' → w.grownBy w' v.ownBlock → K (a.put o.dst v') w') : if Region.wanted o (yielded ops a.tmps) = true then Oper.wp Try.prog o a w K Q else E := by
  have hw : Region.wanted o (yielded ops a.tmps) = true := by simp [Region.wanted, hgd]
  rw [if_pos hw]
  obtain ⟨v', w', hr, h2, h3⟩ := run_appI o.type hown hy hlim
  unfold Oper.wp execOp
  simp only [ho, resolve, invoke, builtin, Sem.run_bind, Sem.run_pure, Result.andThen_ok, List.map_toArray, List.map_cons, List.map_nil, hs, hx, hr]
  exact h v' w' h2 h3
theorem OwnI.fresh {w W : World} {H : Nat} (hb : Below w.heap.size w W) (h : W.heap.size = H) : OwnI w (.slice (some ⟨H, 0, none⟩) 0 0) [] (W.alloc (.cells #[] 3)) := by
  subst h
  exact OwnI.empty (boxN_alloc W [] 3) hb.size (hb.alloc hb.size _)
theorem OwnI.drew {w0 w : World} {v : Value} {l : List Int} (h : OwnI w0 v l w) : OwnI w0 v l w.drew := ⟨h.1.drew, h.2.drew⟩

set_option maxHeartbeats 8000000 in
set_option maxRecDepth 100000 in
theorem turns_walk {w : World} (a0 : Option Addr) (n c0 : Nat) (hn : n ≤ 9223372036854775807) {vl vp : Value} {ls : List (List Int)} {pr : List Int} (hl : RowsV w vl ls) (hr : Rng ls) (hp : IntsV w vp pr) (hpr : ∀ x ∈ pr, -9223372036854775808 ≤ x ∧ x < 9223372036854775808) :
    Calls Try.prog 9 #[.slice a0 n c0, vl, vp] w fun e w' => e = .returned (.bool true) ∧ Below w.heap.size w w' := by
  have HA := Lib.hid awake_c
  have HRV := Lib.hid hl
  have HRG := Lib.hid hr
  have HPR := Lib.hid hpr
  obtain ⟨ap, cp, rfl, hcp, hints⟩ := hp
  obtain ⟨P, hP⟩ : ∃ P, pr.length = P := ⟨_, rfl⟩
  have HIN : Hid (∀ k, k < P → ∃ b o x, ap = some ⟨b, o, none⟩ ∧ pr[k]? = some x ∧ w.cell? ⟨b, o + k, none⟩ = some (.int .i64 x)) := fun k hk => by
    have hk' : k < pr.length := by omega
    rcases hints with h | ⟨b, o, h1, _, h3⟩
    · rw [h] at hk'; cases hk'
    · refine ⟨b, o, pr[k], h1, List.getElem?_eq_getElem hk', ?_⟩
      have := h3 k hk'
      rw [List.getD, List.getElem?_eq_getElem hk'] at this
      exact this
  rw [hP] at hcp ⊢
  have HP := Lib.hid hP
  clear hl hr hpr hints hP
  by_cases h0 : n = 0
  · have e0 : ((n : Int) == 0) = true := by simp [h0]
    clear h0
    go_enter Try.func9, Try.ntmps9
    go_wp2_with (go_at_call 11; refine (HA.out _).mono ?_; rintro e w1 ⟨rfl, hb⟩; have HB1 := Lib.hid hb; clear hb)
    go_ret
    exact ⟨rfl, HB1.out⟩
  · have e0 : ((n : Int) == 0) = false := by
      rw [beq_eq_false_iff_ne]
      omega
    by_cases h40 : n > 40
    · have h41 : (40 : Int) < (n : Int) := by omega
      clear h0
      go_enter Try.func9, Try.ntmps9
      go_wp2_with (go_at_call 11; refine (HA.out _).mono ?_; rintro e w1 ⟨rfl, hb⟩; have HB1 := Lib.hid hb; clear hb)
      go_ret
      exact ⟨rfl, HB1.out⟩
    · have h41 : ¬ (40 : Int) < (n : Int) := by omega
      have hn1 : 1 ≤ n := by omega
      have hn4 : n ≤ 400 := by omega
      have hn40 : n ≤ 40 := by omega
      have HFD := Lib.hid (fun (W : World) (hb : Below w.heap.size w W) => folded_c (most := 100) hn1 hn4 (by omega) (HRV.out.below hb) HRG.out)
      have HF := Lib.hid (fun (l : Int) (h0 : -9223372036854775808 ≤ l) (h1 : l < 9223372036854775808) (w : World) => fold_c hn1 hn4 h0 h1 w)
      clear h0 h40
      go_enter Try.func9, Try.ntmps9
      go_upto_block 0 with (first
        | (go_at_call 11; refine (HA.out _).mono ?_; rintro e w1 ⟨rfl, hb⟩; have HB1 := Lib.hid hb; clear hb)
        | (go_at_call 22; refine (HFD.out _ HB1.out).mono ?_; rintro e w2 ⟨vL, rfl, hmade, hb2⟩; have HB2 := Lib.hid (below_tr HB1.out hb2); have HL2 := Lib.hid hmade; clear hmade hb2))
      go_cut [10] from 35 (fun v10 wx => ∃ vc : Value, vc = v10 ∧ Hid (OwnI w2 vc ((pr.take 60).map (foldZ n)) wx))
      case first =>
        go_wp2_with fail
        go_loopg [10, 11] 60 (fun gk v10 v11 wx => ∃ (k : Nat) (vc : Value), vc = v10 ∧ v11 = .int .i64 (k : Int) ∧ k ≤ P ∧ k ≤ 60 ∧ 60 ≤ k + gk ∧ Hid (OwnI w2 vc ((pr.take k).map (foldZ n)) wx))
        case atStart => exact ⟨0, _, rfl, rfl, by omega, by omega, by omega, OwnI.nil _⟩
        case round =>
          obtain ⟨gJ, rfl⟩ : ∃ x : Nat, x = gk := ⟨_, rfl⟩
          obtain ⟨k, vc, rfl, rfl, hkf, hk4, hkk, HO⟩ := hrel
          obtain ⟨w4, hw4⟩ : ∃ w4, wr = w4 := ⟨_, rfl⟩
          rw [hw4] at HO ⊢
          clear hw4
          have HBW : Hid (Below w.heap.size w w4) := below_tr HB2.out (below_to HO.out.2 (Nat.le_refl _))
          by_cases hk : k < P
          · have hk1 : (k : Int) < (P : Int) := by omega
            by_cases hk2 : k < 60
            · have hk3 : (k : Int) < 60 := by omega
              obtain ⟨b, o, x, hfa, hx, hcx⟩ := HIN.out k hk
              have c2 := cell_tr HBW.out hcx
              have hxr := HPR.out x (List.mem_of_getElem? hx)
              have HX := Lib.hid hx
              have HF2 := Lib.hid (HF.out x hxr.1 hxr.2 w4)
              subst hfa
              clear hcx hx hxr
              obtain ⟨z, hz⟩ : ∃ z, foldZ n x = z := ⟨_, rfl⟩
              rw [hz] at HF2
              have HZ := Lib.hid hz
              clear hz
              have HOW : Hid (∀ o, OwnI w2 vc ((pr.take k).map (foldZ n)) (w4.alloc o)) := fun o => HO.out.below (below1 _ _)
              have HI : Hid (IntsV (w4.alloc (.cells #[.int .i64 z] 3)) (.slice (some ⟨w4.heap.size, 0, none⟩) 1 1) [z]) := ones (w := w4) (zs := [z]) rfl (Below.refl _ _) rfl
              have HL : Hid ((((pr.take k).map (foldZ n)).length + 1) * 8 ≤ 140737488355328) := by
                show (((pr.take k).map (foldZ n)).length + 1) * 8 ≤ 140737488355328
                have := List.length_take_le k pr
                rw [List.length_map]
                omega
              go_wp2_with (first
                | (go_at_call 23; refine HF2.out.mono ?_; rintro e w5 ⟨rfl, rfl⟩)
                | (at_builtin; refine wpList_appI rfl (.tmp 45) (.tmp 52) rfl rfl rfl (HOW.out _) HI.out HL.out ?_; intro v9 w9 ho9 hg9; replace ho9 := Lib.hid ho9; clear hg9))
              go_roundg (gJ - 1)
              case measure => omega
              case rel => exact ⟨k + 1, _, rfl, by go_num, by omega, by omega, by omega, by
                show OwnI _ _ ((pr.take (k + 1)).map (foldZ n)) _
                rw [fold_snoc HX.out, HZ.out]
                exact ho9.out⟩
            · have hk3 : ¬ (k : Int) < 60 := by omega
              have e : pr.take k = pr.take 60 := by rw [show k = 60 from by omega]
              have HE : Hid (OwnI w2 vc ((pr.take 60).map (foldZ n)) w4) := by
                rw [← e]
                exact HO.out
              clear e
              go_wp2_with fail
              go_meet
              case rel => exact ⟨_, rfl, HE.out⟩
          · have hk3 : ¬ (k : Int) < (P : Int) := by omega
            have e : pr.take k = pr.take 60 := by rw [List.take_of_length_le (by rw [HP.out]; omega), List.take_of_length_le (by rw [HP.out]; omega)]
            have HE : Hid (OwnI w2 vc ((pr.take 60).map (foldZ n)) w4) := by
              rw [← e]
              exact HO.out
            clear e
            go_wp2_with fail
            go_meet
            case rel => exact ⟨_, rfl, HE.out⟩
      case rest =>
        obtain ⟨vp, rfl, HVP⟩ := hcut
        obtain ⟨w3, rfl⟩ : ∃ w3 : World, w3 = wc := ⟨_, rfl⟩
        have HB3 : Hid (Below w.heap.size w w3) := below_tr HB2.out HVP.out.2
        have HL3 : Hid (MadeR w1.heap.size w3 vL (foldL n ls 100)) := HL2.out.below HVP.out.2
        obtain ⟨fs, hfs⟩ : ∃ fs, foldL n ls 100 = fs := ⟨_, rfl⟩
        have HFS : Hid ((∀ c ∈ fs, ∀ x ∈ c, Lok n x) ∧ fs.length ≤ 100 ∧ ∀ c ∈ fs, c.length ≤ 4) := by
          rw [← hfs]
          exact ⟨foldL_ok hn1, foldL_len _ _ _, foldL_short⟩
        rw [hfs] at HL3
        clear hfs
        obtain ⟨F, hF⟩ : ∃ F, fs.length = F := ⟨_, rfl⟩
        obtain ⟨aL, cL, hvL, hrow⟩ := HL3.out.form
        rw [hF] at hvL
        subst hvL
        have hF1 : F ≤ 100 := by rw [← hF]; exact HFS.out.2.1
        have HF9 := Lib.hid hF
        have HROW := Lib.hid hrow
        clear hF hrow
        go_wp2_with fail
        go_loopg [12, 13] F (fun gk v12 v13 wx => ∃ (m : Nat) (q : Int) (vt : Value), vt = v12 ∧ v13 = .int .i64 q ∧ q + 1 + (m : Int) = (F : Int) ∧ m ≤ F ∧ F ≤ m + gk ∧ Hid (MadeR w3.heap.size wx vt (turnL fs m) ∧ Below w3.heap.size w3 wx))
        case atStart => exact ⟨0, _, _, rfl, rfl, by go_num, by omega, by omega, MadeR.nil _ _, Below.refl _ _⟩
        case round =>
          obtain ⟨gK, rfl⟩ : ∃ x : Nat, x = gk := ⟨_, rfl⟩
          obtain ⟨m, q, vt, rfl, rfl, hqm, hmF, hmk, HT⟩ := hrel
          obtain ⟨w4, hw4⟩ : ∃ w4, wr = w4 := ⟨_, rfl⟩
          rw [hw4] at HT ⊢
          clear hw4
          by_cases hq : 0 ≤ q
          · obtain ⟨i, rfl⟩ : ∃ i : Nat, q = (i : Int) := ⟨q.toNat, by omega⟩
            have hiF : i < F := by omega
            have hi1 : (i : Int) < (F : Int) := by omega
            obtain ⟨d, hd⟩ : ∃ d, fs[i]? = some d := ⟨_, List.getElem?_eq_getElem (by rw [HF9.out]; exact hiF)⟩
            obtain ⟨g, xa, xn, xc, hal, hcell, hiv⟩ := HROW.out i d hd
            have c1 := cell_tr HT.out.2 hcell
            have HD := Lib.hid hd
            have HIV := Lib.hid hiv
            subst hal
            have HIV4 : Hid (IntsV w4 (.slice xa xn xc) d) := HIV.out.below HT.out.2
            have hdl : d.length ≤ 4 := HFS.out.2.2 d (List.mem_of_getElem? HD.out)
            have HL1 : Hid ((([] : List Int).length + d.length) * 8 ≤ 140737488355328) := by
              show (([] : List Int).length + d.length) * 8 ≤ 140737488355328
              rw [List.length_nil]
              omega
            have HL2 : Hid ((([] ++ d).length + d.length) * 8 ≤ 140737488355328) := by
              show (([] ++ d).length + d.length) * 8 ≤ 140737488355328
              rw [List.nil_append]
              omega
            clear hd hiv hcell
            go_upto_region 15 with fail
            go_cut [14] from 57 to 79 (fun v14 wx => ∃ (a7 : Option Addr) (n7 c7 : Nat), v14 = .slice a7 n7 c7 ∧ Hid (OwnI w4 (.slice a7 n7 c7) (d ++ d) wx))
            case first =>
              have HS : Hid (∀ W, Below w4.heap.size w4 W → Below w4.heap.size w4 W ∧ W.cell? ⟨g, i, none⟩ = some (.slice xa xn xc)) := fun W hb => ⟨hb, cell_tr hb c1⟩
              go_region_held3 (fun W => Below w4.heap.size w4 W ∧ W.cell? ⟨g, i, none⟩ = some (.slice xa xn xc))
                (first | exact HS.out _ (Below.refl _ _).drew | exact HS.out _ ((Below.refl _ _).alloc (Nat.le_refl _) _).drew | exact HS.out _ h6.2 | exact HS.out _ h5.2)
                ((first
                  | (refine step_appI (w0 := w4) (by rfl) (.tmp 61) (.tmp 65) (by rfl) _ _ (by rfl) (by rfl) [] d (by first | exact (OwnI.fresh (Below.refl _ _) rfl).drew) (HIV4.out.below (by first | exact ((Below.refl _ _).alloc (Nat.le_refl _) _).drew)) HL1.out ?_; intro v5 w5 h5 hg5)
                  | (refine step_appI (w0 := w4) (by rfl) (.tmp 66) (.tmp 70) (by rfl) v5 _ (by rfl) (by rfl) ([] ++ d) d h5 (HIV4.out.below h5.2) HL2.out ?_; intro v6 w6 h6 hg6)))
              all_goals
                have HV6 : Hid (∃ (a7 : Option Addr) (n7 c7 : Nat), v6 = .slice a7 n7 c7) := by
                  obtain ⟨a7, c7, e⟩ := ownsRow_slice h6.1
                  exact ⟨a7, _, c7, e⟩
                obtain ⟨a7, n7, c7, rfl⟩ := HV6.out
                go_wp2_with fail
                go_meet
                case rel => exact ⟨a7, n7, c7, rfl, h6⟩
            case rest =>
              obtain ⟨a7, n7, c7, rfl, HC⟩ := hcut
              obtain ⟨w5, rfl⟩ : ∃ w5 : World, w5 = wc := ⟨_, rfl⟩
              have c2 := cell_tr HC.out.2 c1
              have HMM : Hid (∀ o, MadeR w3.heap.size (w5.alloc o) vt (turnL fs m)) := fun o => (HT.out.1.below HC.out.2).below (below1 _ _)
              have HRR : Hid (RowsO (w5.alloc (.cells #[.slice a7 n7 c7, .slice xa xn xc] 24)) vt (.slice (some ⟨w5.heap.size, 0, none⟩) 2 2) [d ++ d, d]) :=
                RowsO.two (boxN_alloc w5 [.slice a7 n7 c7, .slice xa xn xc] 24) (HC.out.ints.below (below1 _ _)) (OwnI.off HT.out.1 HC.out) ((HIV4.out.below HC.out.2).below (below1 _ _)) (Off.low HIV.out fun g hg => (HT.out.1.lt hg).1)
              have HL : Hid (((turnL fs m).length + 2) * 24 ≤ 140737488355328) := by
                show ((turnL fs m).length + 2) * 24 ≤ 140737488355328
                rw [turnL_len]
                omega
              have HTU : Hid (turnL fs (m + 1) = turnL fs m ++ [d ++ d, d]) := by
                have e : fs.getD (fs.length - 1 - m) [] = d := by
                  rw [HF9.out, show F - 1 - m = i from by omega, List.getD, HD.out]
                  rfl
                show turnL fs m ++ _ = _
                rw [e]
              have HSZ : Hid (Below w3.heap.size w3 (w5.alloc (.cells #[.slice a7 n7 c7, .slice xa xn xc] 24))) := below_tr HT.out.2 (HC.out.2.trans (below_to (below1 w5 _) HC.out.2.size))
              clear c1
              go_wp2_with (at_builtin; refine wpList_appR rfl (.tmp 72) (.tmp 78) rfl rfl rfl (HMM.out _) HRR.out HL.out HSZ.out.size ?_; intro v9 w9 hm9 hb9; replace hm9 := Lib.hid hm9; replace hb9 := Lib.hid hb9)
              go_roundg (gK - 1)
              case measure => omega
              case rel => exact ⟨m + 1, (i : Int) - 1, _, rfl, by go_num, by omega, by omega, by omega, by
                rw [HTU.out]
                exact hm9.out, HSZ.out.trans hb9.out⟩
          · have hq1 : ¬ (0 : Int) ≤ q := hq
            have hmE : m = F := by omega
            obtain ⟨ps, hps⟩ : ∃ ps, (pr.take 60).map (foldZ n) = ps := ⟨_, rfl⟩
            have HPS : Hid ((∀ x ∈ ps, Lok n x) ∧ ps.length ≤ 60) := by
              rw [← hps]
              refine ⟨fun x hx => ?_, ?_⟩
              · obtain ⟨y, _, rfl⟩ := List.mem_map.1 hx
                exact foldZ_ok hn1 y
              · rw [List.length_map]
                exact List.length_take_le _ _
            rw [hps] at HVP
            have hp : 2 ^ n ≤ 2 ^ 40 := Nat.pow_le_pow_right (by omega) hn40
            have h2 : (2 : Nat) ^ 40 = 1099511627776 := by decide
            have HS1 : Hid (Calls Try.prog 14 #[.int .i64 (n : Int), .slice aL F cL, vp] w4 (SolvePost w4 n fs ps)) := by
              refine solve_c (n := n) hn4 ((HL3.out.below HT.out.2).rows) (HVP.out.ints.below HT.out.2) (by rw [HF9.out]; omega) (fun c hc => Nat.le_trans (HFS.out.2.2 c hc) (by omega)) (by have := HPS.out.2; omega) (litsB_ok.2 ⟨HFS.out.1, HPS.out.1⟩) (.inl (by rw [HF9.out]; omega))
            have HS2 : Hid (∀ W, Below w4.heap.size w4 W → Calls Try.prog 14 #[.int .i64 (n : Int), vt, vp] W (SolvePost W n (turnL fs fs.length) ps)) := fun W hb => by
              have hlen : (turnL fs fs.length).length ≤ 200 := by
                rw [turnL_len, HF9.out]
                omega
              have hm : MadeR w3.heap.size W vt (turnL fs fs.length) := by
                rw [HF9.out, ← hmE]
                exact HT.out.1.below hb
              exact solve_c (n := n) hn4 hm.rows ((HVP.out.ints.below HT.out.2).below hb) (by omega) (fun c hc => Nat.le_trans (turn_short HFS.out.2.2 c hc) (by omega)) (by have := HPS.out.2; omega) (litsB_ok.2 ⟨turn_ok HFS.out.1, HPS.out.1⟩) (.inl (by omega))
            have HB4 : Hid (Below w.heap.size w w4) := below_tr HB3.out HT.out.2
            clear hp h2 hps hmE
            go_wp2_with fail
            refine HS1.out.mono ?_
            rintro e w5 ⟨hb5, hres⟩
            have HB5 := Lib.hid hb5
            clear hb5
            rcases hres with ⟨gv, v, rfl, _, hbox, hbest⟩ | ⟨rfl, hun⟩
            · have HBX := Lib.hid (BoolsV.box hbox)
              have HBE := Lib.hid hbest
              clear hbox hbest
              go_wp2_with fail
              refine (HS2.out w5 HB5.out).mono ?_
              rintro e w6 ⟨hb6, hres⟩
              rcases hres with ⟨gu, u, rfl, _, hbox, hbest⟩ | ⟨_, hun⟩
              · have HS := Lib.hid (sameB_c (HBX.out.below hb6) (BoolsV.box hbox) (by rw [bsOf_len]; unfold maxLen; omega) (by rw [bsOf_len]; unfold maxLen; omega))
                have HEQ : Hid (decide (bsOf n v = bsOf n u) = true) := decide_eq_true (turn_same HBE.out hbest)
                have HB6 : Hid (Below w.heap.size w w6) := below_tr (below_tr HB4.out HB5.out) hb6
                rw [HEQ.out] at HS
                clear hbox hbest hb6
                go_wp2_with fail
                refine HS.out.mono ?_
                rintro e w8 ⟨rfl, q8, hw8⟩
                have HF8 : Hid (Below w.heap.size w w8) := by
                  rw [hw8]
                  exact below_dr HB6.out q8
                clear hw8
                go_wp2_with fail
                go_ret
                exact ⟨rfl, HF8.out⟩
              · exact absurd (turn_sat.2 HBE.out.1) (hun v)
            · have HUN := Lib.hid hun
              clear hun
              go_wp2_with fail
              refine (HS2.out w5 HB5.out).mono ?_
              rintro e w6 ⟨hb6, hres⟩
              rcases hres with ⟨gu, u, rfl, _, hbox, hbest⟩ | ⟨rfl, hun⟩
              · exact absurd (turn_sat.1 hbest.1) (HUN.out u)
              · have hz : BoolsV w6 (.slice none 0 0) [] := ⟨none, 0, rfl, Nat.le_refl _, .inl rfl⟩
                have HS := Lib.hid (sameB_c hz hz (by decide) (by decide))
                have HB6 : Hid (Below w.heap.size w w6) := below_tr (below_tr HB4.out HB5.out) hb6
                rw [show decide (([] : List Bool) = []) = true from rfl] at HS
                clear hz hb6 hun
                go_wp2_with fail
                refine HS.out.mono ?_
                rintro e w8 ⟨rfl, q8, hw8⟩
                have HF8 : Hid (Below w.heap.size w w8) := by
                  rw [hw8]
                  exact below_dr HB6.out q8
                clear hw8
                go_wp2_with fail
                go_ret
                exact ⟨rfl, HF8.out⟩
end Go.Proofs.Ytkeagjphddcjeaa
