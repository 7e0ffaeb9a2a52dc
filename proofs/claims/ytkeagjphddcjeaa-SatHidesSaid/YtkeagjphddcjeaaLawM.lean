/-
  SatMore: the walk. Helper text; the conditions are those typed.
-/
import Derived.Test.YtkeagjphddcjeaaSolS
import Derived.Test.YtkeagjphddcjeaaSatAdd
import Derived.Test.YtkeagjphddcjeaaLawC
namespace Go.Proofs.Ytkeagjphddcjeaa
set_option linter.unusedVariables false
set_option linter.unusedSimpArgs false
open Go.RowKit Go.Maps Sat

theorem rows_one {w : World} {x : Value} {l : List Int} (h : IntsV w x l) : RowsV (w.alloc (.cells #[x] 24)) (.slice (some ⟨w.heap.size, 0, none⟩) 1 1) [l] :=
  RowsV.box (vals := [x]) (boxN_alloc w [x] 24) rfl rfl fun i y l' hy hl => by
    cases i with
    | zero =>
      have e1 : x = y := by simpa using hy
      have e2 : l = l' := by simpa using hl
      subst e1 e2
      exact h.below (below1 _ _)
    | succ i => simp at hy

theorem more_first {n : Nat} (hn1 : 1 ≤ n) (hn : n ≤ 30) {B : Nat} {w : World} {vl vp : Value} {fs : List (List Int)} {ps : List Int} (hl : MadeR B w vl fs) (hp : IntsV w vp ps) (hf : (∀ c ∈ fs, ∀ x ∈ c, Lok n x) ∧ fs.length ≤ 100 ∧ ∀ c ∈ fs, c.length ≤ 4) (hps : (∀ x ∈ ps, Lok n x) ∧ ps.length ≤ 40) :
    Calls Try.prog 14 #[.int .i64 (n : Int), vl, vp] w (SolvePost w n fs ps) := by
  have h1 : 2 ^ n ≤ 2 ^ 30 := Nat.pow_le_pow_right (by omega) hn
  have h2 : (2 : Nat) ^ 30 = 1073741824 := by decide
  exact solve_c (n := n) (by omega) hl.rows hp (by omega) (fun c hc => Nat.le_trans (hf.2.2 c hc) (by omega)) (by omega) (litsB_ok.2 ⟨hf.1, hps.1⟩) (.inl (by omega))
theorem more_second {n : Nat} (hn1 : 1 ≤ n) (hn : n ≤ 30) {B : Nat} {w : World} {vl vp : Value} {fs : List (List Int)} {d ps : List Int} (hl : MadeR B w vl (([] ++ fs) ++ [d])) (hp : IntsV w vp ps) (hf : (∀ c ∈ fs, ∀ x ∈ c, Lok n x) ∧ fs.length ≤ 100 ∧ ∀ c ∈ fs, c.length ≤ 4) (hd : (∀ x ∈ d, Lok n x) ∧ d.length ≤ 4) (hps : (∀ x ∈ ps, Lok n x) ∧ ps.length ≤ 40) :
    Calls Try.prog 14 #[.int .i64 (n : Int), vl, vp] w (SolvePost w n (fs ++ [d]) ps) := by
  have h1 : 2 ^ n ≤ 2 ^ 30 := Nat.pow_le_pow_right (by omega) hn
  have h2 : (2 : Nat) ^ 30 = 1073741824 := by decide
  rw [List.nil_append] at hl
  have hlen : (fs ++ [d]).length ≤ 101 := by
    rw [List.length_append, List.length_singleton]
    omega
  refine solve_c (n := n) (by omega) hl.rows hp (by omega) (fun c hc => ?_) (by omega) (litsB_ok.2 ⟨fun c hc => ?_, hps.1⟩) (.inl (by omega))
  · rcases List.mem_append.1 hc with h | h
    · exact Nat.le_trans (hf.2.2 c h) (by omega)
    · rw [List.mem_singleton.1 h]
      exact Nat.le_trans hd.2 (by omega)
  · rcases List.mem_append.1 hc with h | h
    · exact hf.1 c h
    · rw [List.mem_singleton.1 h]
      exact hd.1
theorem more_len {fs : List (List Int)} {d : List Int} (h : fs.length ≤ 100) : (([] ++ fs : List (List Int)).length + ([d] : List (List Int)).length) * 24 ≤ 140737488355328 := by
  rw [List.nil_append, List.length_singleton]
  omega
/-- What Solve found, the flag apart. -/
def Found (w : World) (n : Nat) (ls : List Cl) (pr : List Int) (v : Value) (ok : Bool) : Prop := (ok = true ∧ (∃ g, v = .slice (some ⟨g, 0, none⟩) n n) ∧ ∃ x : Asg, BoolsV w v (bsOf n x) ∧ Best n ls pr x) ∨ (ok = false ∧ v = .slice none 0 0 ∧ ∀ x, ¬ sat x ls)
theorem more_res {w w' : World} {n : Nat} {ls : List Cl} {pr : List Int} {e : Ending} (h : SolvePost w n ls pr e w') : ∃ v ok, e = .returned (.tuple #[v, .bool ok, .int .i64 0]) ∧ Below w.heap.size w w' ∧ Found w' n ls pr v ok := by
  obtain ⟨hb, h⟩ := h
  rcases h with ⟨g, x, rfl, _, hbox, hbest⟩ | ⟨rfl, hun⟩
  · exact ⟨_, true, rfl, hb, .inl ⟨rfl, ⟨g, rfl⟩, x, BoolsV.box hbox, hbest⟩⟩
  · exact ⟨_, false, rfl, hb, .inr ⟨rfl, rfl, hun⟩⟩

set_option maxHeartbeats 8000000 in
set_option maxRecDepth 100000 in
theorem more_walk {w : World} (x : Int) (hx0 : -9223372036854775808 ≤ x) (hx1 : x < 9223372036854775808) {vl vm vp : Value} {ls : List (List Int)} {mo pr : List Int} (hl : RowsV w vl ls) (hr : Rng ls) (hm : IntsV w vm mo) (hmr : ∀ x ∈ mo, -9223372036854775808 ≤ x ∧ x < 9223372036854775808) (hp : IntsV w vp pr) (hpr : ∀ x ∈ pr, -9223372036854775808 ≤ x ∧ x < 9223372036854775808) :
    Calls Try.prog 10 #[.int .i64 x, vl, vm, vp] w fun e w' => e = .returned (.bool true) ∧ Below w.heap.size w w' := by
  have HA := Lib.hid awake_c
  have HRV := Lib.hid hl
  have HRG := Lib.hid hr
  have HPR := Lib.hid hpr
  have HMV := Lib.hid hm
  have HMR := Lib.hid hmr
  obtain ⟨am, cm, hvm, _, _⟩ := hm
  obtain ⟨M, hM⟩ : ∃ M, mo.length = M := ⟨_, rfl⟩
  rw [hM] at hvm
  subst hvm
  obtain ⟨ap, cp, rfl, hcp, hints⟩ := hp
  obtain ⟨P, hP⟩ : ∃ P, pr.length = P := ⟨_, rfl⟩
  have HIN : Hid (∀ k, k < P → ∃ b o x, ap = some ⟨b, o, none⟩ ∧ pr[k]? = some x ∧ w.cell? ⟨b, o + k, none⟩ = some (.int .i64 x)) := fun k hk => by
    have hk' : k < pr.length := by omega
    rcases hints with h | ⟨b, o, h1, _, h3⟩
    · rw [h] at hk'; cases hk'
    · refine ⟨b, o, pr[k], h1, List.getElem?_eq_getElem hk', ?_⟩
      have := h3 k hk'
      rw [List.getD, List.getElem?_eq_getElem hk'] at this
      exact this
  rw [hP] at hcp ⊢
  have HP := Lib.hid hP
  clear hl hr hpr hints hP hM hmr
  go_enter Try.func10, Try.ntmps10
  go_upto_if 23 with (go_at_call 11; refine (HA.out _).mono ?_; rintro e w1 ⟨rfl, hb⟩; have HB1 := Lib.hid hb; clear hb)
  go_cut [0] from 24 (fun v0 wx => ∃ y : Int, v0 = .int .i64 y ∧ 0 ≤ y ∧ y < 9223372036854775808 ∧ Hid (Below w.heap.size w wx))
  case first =>
    by_cases hn : x < 0
    · go_wp2_with fail
      go_meet
      case rel => exact ⟨_, rfl, by go_num, by go_num, HB1⟩
    · go_wp2_with fail
      go_meet
      case rel => exact ⟨_, rfl, by omega, hx1, HB1⟩
  case rest =>
    obtain ⟨y, rfl, hy0, hy1, HBc⟩ := hcut
    go_upto_region 4 with fail
    go_cut [0] from 27 (fun v0 wx => ∃ n : Nat, v0 = .int .i64 (n : Int) ∧ 1 ≤ n ∧ n ≤ 30 ∧ Hid (Below w.heap.size w wx))
    case first =>
      go_wp2_with fail
      go_meet
      case rel =>
        obtain ⟨N, hN⟩ : ∃ N : Nat, (1 + y % 30) = (N : Int) := ⟨(1 + y % 30).toNat, by omega⟩
        exact ⟨N, by rw [← hN], by omega, by omega, HBc⟩
    case rest =>
      obtain ⟨n, rfl, hn1, hn30, HBd⟩ := hcut
      obtain ⟨w2, rfl⟩ : ∃ w2 : World, w2 = wc := ⟨_, rfl⟩
      have hn4 : n ≤ 400 := by omega
      have HFD := Lib.hid (fun (W : World) (hb : Below w.heap.size w W) => folded_c (most := 100) hn1 hn4 (by omega) (HRV.out.below hb) HRG.out)
      have HFM := Lib.hid (fun (W : World) (hb : Below w.heap.size w W) => folded_c (most := 1) hn1 hn4 (by omega) (rows_one (HMV.out.below hb)) (fun c hc x hx => by
        rw [List.mem_singleton.1 hc] at hx
        exact HMR.out x hx : Rng [mo]))
      have HF := Lib.hid (fun (l : Int) (h0 : -9223372036854775808 ≤ l) (h1 : l < 9223372036854775808) (w : World) => fold_c hn1 hn4 h0 h1 w)
      go_upto_region 6 with (go_at_call 22; refine (HFD.out w2 HBd.out).mono ?_; rintro e w3 ⟨vL, rfl, hmade, hb3⟩; have HB3 := Lib.hid (below_tr HBd.out hb3); have HL3 := Lib.hid hmade; clear hmade hb3)
      have HFM3 := Lib.hid (HFM.out w3 HB3.out)
      obtain ⟨fs, hfs⟩ : ∃ fs, foldL n ls 100 = fs := ⟨_, rfl⟩
      have HFS : Hid ((∀ c ∈ fs, ∀ x ∈ c, Lok n x) ∧ fs.length ≤ 100 ∧ ∀ c ∈ fs, c.length ≤ 4) := by
        rw [← hfs]
        exact ⟨foldL_ok hn1, foldL_len _ _ _, foldL_short⟩
      rw [hfs] at HL3
      obtain ⟨d, hd⟩ : ∃ d, foldC n mo = d := ⟨_, rfl⟩
      have HD : Hid ((∀ x ∈ d, Lok n x) ∧ d.length ≤ 4) := by
        rw [← hd]
        exact ⟨foldL_ok hn1 (ls := [mo]) (most := 1) _ (List.mem_singleton.2 rfl), foldL_short (ls := [mo]) (most := 1) _ (List.mem_singleton.2 rfl)⟩
      rw [show foldL n [mo] 1 = [d] from by rw [← hd]; rfl] at HFM3
      clear hfs hd HFD HFM
      go_wp2_with fail
      refine HFM3.out.mono ?_
      rintro e w4 ⟨vC, rfl, hmade, hb4⟩
      have HB34 : Hid (Below w3.heap.size w3 w4) := below_tr (below1 w3 _) hb4
      have HB4 : Hid (Below w.heap.size w w4) := below_tr HB3.out HB34.out
      have HL4 : Hid (MadeR w2.heap.size w4 vL fs) := HL3.out.below HB34.out
      obtain ⟨aC, cC, hvC, hrow⟩ := hmade.form
      obtain ⟨gC, xC, mC, kC, rfl, hcell, hiv⟩ := hrow 0 d rfl
      rw [show ([d] : List (List Int)).length = 1 from rfl] at hvC
      subst hvC
      have HCR : Hid (RowsV w4 (.slice (some ⟨gC, 0, none⟩) 1 cC) [d]) := hmade.rows
      have HCI : Hid (IntsV w4 (.slice xC mC kC) d) := hiv
      have HCC := Lib.hid hcell
      clear hmade hb4 hrow hcell hiv HFM3
      go_upto_region 7 with fail
      go_upto_block 0 with fail
      go_cut [12] from 37 (fun v12 wx => ∃ vc : Value, vc = v12 ∧ Hid (OwnI w4 vc ((pr.take 40).map (foldZ n)) wx))
      case first =>
        go_wp2_with fail
        go_loopg [12, 13] 40 (fun gk v12 v13 wx => ∃ (k : Nat) (vc : Value), vc = v12 ∧ v13 = .int .i64 (k : Int) ∧ k ≤ P ∧ k ≤ 40 ∧ 40 ≤ k + gk ∧ Hid (OwnI w4 vc ((pr.take k).map (foldZ n)) wx))
        case atStart => exact ⟨0, _, rfl, rfl, by omega, by omega, by omega, OwnI.nil _⟩
        case round =>
          obtain ⟨gJ, rfl⟩ : ∃ x : Nat, x = gk := ⟨_, rfl⟩
          obtain ⟨k, vc, rfl, rfl, hkf, hk4, hkk, HO⟩ := hrel
          obtain ⟨w5, hw5⟩ : ∃ w5, wr = w5 := ⟨_, rfl⟩
          rw [hw5] at HO ⊢
          clear hw5
          have HBW : Hid (Below w.heap.size w w5) := below_tr HB4.out (below_to HO.out.2 (Nat.le_refl _))
          by_cases hk : k < P
          · have hk1 : (k : Int) < (P : Int) := by omega
            by_cases hk2 : k < 40
            · have hk3 : (k : Int) < 40 := by omega
              obtain ⟨b, o, x, hfa, hx, hcx⟩ := HIN.out k hk
              have c2 := cell_tr HBW.out hcx
              have hxr := HPR.out x (List.mem_of_getElem? hx)
              have HX := Lib.hid hx
              have HF2 := Lib.hid (HF.out x hxr.1 hxr.2 w5)
              subst hfa
              clear hcx hx hxr
              obtain ⟨z, hz⟩ : ∃ z, foldZ n x = z := ⟨_, rfl⟩
              rw [hz] at HF2
              have HZ := Lib.hid hz
              clear hz
              have HOW : Hid (∀ o, OwnI w4 vc ((pr.take k).map (foldZ n)) (w5.alloc o)) := fun o => HO.out.below (below1 _ _)
              have HI : Hid (IntsV (w5.alloc (.cells #[.int .i64 z] 3)) (.slice (some ⟨w5.heap.size, 0, none⟩) 1 1) [z]) := ones (w := w5) (zs := [z]) rfl (Below.refl _ _) rfl
              have HL : Hid ((((pr.take k).map (foldZ n)).length + 1) * 8 ≤ 140737488355328) := by
                show (((pr.take k).map (foldZ n)).length + 1) * 8 ≤ 140737488355328
                have := List.length_take_le k pr
                rw [List.length_map]
                omega
              go_wp2_with (first
                | (go_at_call 23; refine HF2.out.mono ?_; rintro e w5 ⟨rfl, rfl⟩)
                | (at_builtin; refine wpList_appI rfl (.tmp 47) (.tmp 54) rfl rfl rfl (HOW.out _) HI.out HL.out ?_; intro v9 w9 ho9 hg9; replace ho9 := Lib.hid ho9; clear hg9))
              go_roundg (gJ - 1)
              case measure => omega
              case rel => exact ⟨k + 1, _, rfl, by go_num, by omega, by omega, by omega, by
                show OwnI _ _ ((pr.take (k + 1)).map (foldZ n)) _
                rw [fold_snoc HX.out, HZ.out]
                exact ho9.out⟩
            · have hk3 : ¬ (k : Int) < 40 := by omega
              have e : pr.take k = pr.take 40 := by rw [show k = 40 from by omega]
              have HE : Hid (OwnI w4 vc ((pr.take 40).map (foldZ n)) w5) := by
                rw [← e]
                exact HO.out
              clear e
              go_wp2_with fail
              go_meet
              case rel => exact ⟨_, rfl, HE.out⟩
          · have hk3 : ¬ (k : Int) < (P : Int) := by omega
            have e : pr.take k = pr.take 40 := by rw [List.take_of_length_le (by rw [HP.out]; omega), List.take_of_length_le (by rw [HP.out]; omega)]
            have HE : Hid (OwnI w4 vc ((pr.take 40).map (foldZ n)) w5) := by
              rw [← e]
              exact HO.out
            clear e
            go_wp2_with fail
            go_meet
            case rel => exact ⟨_, rfl, HE.out⟩
      case rest =>
        obtain ⟨vq, rfl, HVP⟩ := hcut
        obtain ⟨w5, rfl⟩ : ∃ w5 : World, w5 = wc := ⟨_, rfl⟩
        have HB45 : Hid (Below w4.heap.size w4 w5) := HVP.out.2
        have HB5 : Hid (Below w.heap.size w w5) := below_tr HB4.out HB45.out
        have HL5 : Hid (MadeR w2.heap.size w5 vL fs) := HL4.out.below HB45.out
        have HCR5 : Hid (RowsV w5 (.slice (some ⟨gC, 0, none⟩) 1 cC) [d]) := HCR.out.below HB45.out
        have HCI5 : Hid (IntsV w5 (.slice xC mC kC) d) := HCI.out.below HB45.out
        have HCC5 : Hid (w5.cell? ⟨gC, 0, none⟩ = some (.slice xC mC kC)) := cell_tr HB45.out HCC.out
        obtain ⟨ps, hps⟩ : ∃ ps, (pr.take 40).map (foldZ n) = ps := ⟨_, rfl⟩
        have HPS : Hid ((∀ x ∈ ps, Lok n x) ∧ ps.length ≤ 40) := by
          rw [← hps]
          refine ⟨fun x hx => ?_, ?_⟩
          · obtain ⟨y, _, rfl⟩ := List.mem_map.1 hx
            exact foldZ_ok hn1 y
          · rw [List.length_map]
            exact List.length_take_le _ _
        rw [hps] at HVP
        have HS1 : Hid (Calls Try.prog 14 #[.int .i64 (n : Int), vL, vq] w5 (SolvePost w5 n fs ps)) := more_first hn1 hn30 HL5.out HVP.out.ints HFS.out HPS.out
        have HS2 : Hid (∀ (B : Nat) (W : World) (v : Value), Below w5.heap.size w5 W → MadeR B W v (([] ++ fs) ++ [d]) → Calls Try.prog 14 #[.int .i64 (n : Int), v, vq] W (SolvePost W n (fs ++ [d]) ps)) := fun B W v hb hm => more_second hn1 hn30 hm (HVP.out.ints.below hb) HFS.out HD.out HPS.out
        clear hps
        go_wp2_with fail
        refine HS1.out.mono ?_
        intro e w6 hpost
        obtain ⟨va, ok, rfl, hb6, hres⟩ := more_res hpost
        have HB56 := Lib.hid hb6
        have HRES := Lib.hid hres
        clear hpost hb6 hres HS1
        have HL6 : Hid (MadeR w2.heap.size w6 vL fs) := HL5.out.below HB56.out
        have HB : Hid (Below w6.heap.size w6 (w6.alloc (.cells #[] 24))) := below1 _ _
        have HE := Lib.hid (ch_e1 w6)
        have HR := Lib.hid (ch_e2 HL6.out)
        have HL1 : Hid ((([] : List (List Int)).length + fs.length) * 24 ≤ 140737488355328) := by
          show (([] : List (List Int)).length + fs.length) * 24 ≤ 140737488355328
          have := HFS.out.2.1
          rw [List.length_nil]
          omega
        have HL2 := Lib.hid (more_len (d := d) HFS.out.2.1)
        have HRO : Hid (∀ W v, Below w6.heap.size w6 W → MadeR w6.heap.size W v ([] ++ fs) → RowsO W v (.slice (some ⟨gC, 0, none⟩) 1 cC) [d]) := fun W v hb hm => RowsO.low (HCR5.out.below HB56.out) hb fun g hg => (hm.lt hg).1
        go_wp2_with (at_builtin; first
          | (refine wpList_appR rfl (.tmp 66) (.tmp 67) rfl rfl rfl HE.out HR.out HL1.out HB.out.size ?_; intro v9 w9 hm9 hb9; have HM9 := Lib.hid hm9; have H9 := Lib.hid (HB.out.trans hb9); clear hm9 hb9)
          | (refine wpList_appR rfl (.tmp 68) (.tmp 69) rfl rfl rfl HM9.out (HRO.out _ _ H9.out HM9.out) HL2.out H9.out.size ?_; intro v10 w10 hm10 hb10; have HM10 := Lib.hid hm10; have H10 := Lib.hid (H9.out.trans hb10); clear hm10 hb10))
        have HS3 := Lib.hid (HS2.out _ _ _ (below_tr HB56.out H10.out) HM10.out)
        refine HS3.out.mono ?_
        intro e w12 hpost
        obtain ⟨vb, is, rfl, hb12, hres⟩ := more_res hpost
        have HRES2 := Lib.hid hres
        have HB612 : Hid (Below w6.heap.size w6 w12) := below_tr H10.out hb12
        have HW12 : Hid (Below w.heap.size w w12) := below_tr (below_tr HB5.out HB56.out) HB612.out
        have HL12 : Hid (RowsV w12 vL fs) := (HL6.out.below HB612.out).rows
        have HC12 : Hid (IntsV w12 (.slice xC mC kC) d) := (HCI5.out.below HB56.out).below HB612.out
        have c0 : w12.cell? ⟨gC, 0, none⟩ = some (.slice xC mC kC) := cell_tr HB612.out (cell_tr HB56.out HCC5.out)
        have hd4 : d.length ≤ 9223372036854775807 := Nat.le_trans HD.out.2 (by omega)
        clear hpost hb12 hres HS2 HS3 HM9 H9 HM10 H10 HRO HL1 HL2 HE HR HB
        rcases HRES.out with ⟨rfl, ⟨gv, rfl⟩, v, hbv, hbest⟩ | ⟨rfl, rfl, hun⟩
        · have HHV := Lib.hid (holds_c (hbv.below HB612.out) hn4 HC12.out hd4 HD.out.1)
          have HBV : Hid (BoolsV w12 (.slice (some ⟨gv, 0, none⟩) n n) (bsOf n v)) := hbv.below HB612.out
          have HBEST := Lib.hid hbest
          clear hbv hbest HRES
          cases hz : d.any (litB v) with
          | true =>
            have HDV : Hid (holds v d) := List.any_eq_true.1 hz
            rw [hz] at HHV
            clear hz
            rcases HRES2.out with ⟨rfl, ⟨gu, rfl⟩, u, hbu, hbest2⟩ | ⟨rfl, rfl, hun2⟩
            · have HS := Lib.hid (sameB_c HBV.out hbu (by rw [bsOf_len]; unfold maxLen; omega) (by rw [bsOf_len]; unfold maxLen; omega))
              have HEQ : Hid (decide (bsOf n v = bsOf n u) = true) := decide_eq_true (best_more HBEST.out HDV.out hbest2)
              rw [HEQ.out] at HS
              clear hbu hbest2 HRES2 hd4
              go_wp2_with fail
              refine HHV.out.mono ?_
              rintro e w13 ⟨rfl, rfl⟩
              go_wp2_with fail
              refine HS.out.mono ?_
              rintro e w8 ⟨rfl, q8, hw8⟩
              have HF8 : Hid (Below w.heap.size w w8) := by
                rw [hw8]
                exact below_dr HW12.out q8
              clear hw8
              go_wp2_with fail
              go_ret
              exact ⟨rfl, HF8.out⟩
            · exact absurd (sat_more.2 ⟨HBEST.out.1, HDV.out⟩) (hun2 v)
          | false =>
            rw [hz] at HHV
            clear hz
            rcases HRES2.out with ⟨rfl, ⟨gu, rfl⟩, u, hbu, hbest2⟩ | ⟨rfl, rfl, hun2⟩
            · have HA := Lib.hid (all_c hbu hn4 HL12.out (Nat.le_trans HFS.out.2.1 (by omega)) (fun c hc => Nat.le_trans (HFS.out.2.2 c hc) (by omega)) HFS.out.1)
              have HU := Lib.hid (holds_c hbu hn4 HC12.out hd4 HD.out.1)
              have hs := sat_more.1 hbest2.1
              rw [allB_sat.2 hs.1] at HA
              rw [show d.any (litB u) = true from List.any_eq_true.2 hs.2] at HU
              clear hbu hbest2 hs HRES2 hd4
              go_wp2_with fail
              refine HHV.out.mono ?_
              rintro e w13 ⟨rfl, rfl⟩
              go_wp2_with fail
              refine HA.out.mono ?_
              rintro e w13 ⟨rfl, rfl⟩
              go_wp2_with fail
              refine HU.out.mono ?_
              rintro e w13 ⟨rfl, rfl⟩
              go_wp2_with fail
              go_ret
              exact ⟨rfl, HW12.out⟩
            · clear hun2 HRES2 hd4
              go_wp2_with fail
              refine HHV.out.mono ?_
              rintro e w13 ⟨rfl, rfl⟩
              go_wp2_with fail
              go_ret
              exact ⟨rfl, HW12.out⟩
        · have HUN := Lib.hid hun
          clear hun HRES
          rcases HRES2.out with ⟨rfl, ⟨gu, rfl⟩, u, hbu, hbest2⟩ | ⟨rfl, rfl, hun2⟩
          · exact absurd (sat_more.1 hbest2.1).1 (HUN.out u)
          · clear hun2 HRES2 hd4
            go_wp2_with fail
            go_ret
            exact ⟨rfl, HW12.out⟩
end Go.Proofs.Ytkeagjphddcjeaa
