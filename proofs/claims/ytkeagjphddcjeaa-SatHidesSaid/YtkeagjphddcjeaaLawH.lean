/-
  SatHides: the walk. Helper text; the conditions are those typed.
-/
import Derived.Test.YtkeagjphddcjeaaSolX
import Derived.Test.YtkeagjphddcjeaaSolW
import Derived.Test.YtkeagjphddcjeaaLawM
namespace Go.Proofs.Ytkeagjphddcjeaa
set_option linter.unusedVariables false
set_option linter.unusedSimpArgs false
open Go.RowKit Go.Maps Sat

theorem rise_lt {l : List Nat} (h : l.Pairwise (· < ·)) {i j : Nat} {a b : Nat} (hi : l[i]? = some a) (hj : l[j]? = some b) (hij : i < j) : a < b := by
  obtain ⟨h1, rfl⟩ := List.getElem?_eq_some_iff.1 hi
  obtain ⟨h2, rfl⟩ := List.getElem?_eq_some_iff.1 hj
  exact List.pairwise_iff_getElem.1 h i j h1 h2 hij
theorem rise_ne {l : List Nat} (h : l.Pairwise (· < ·)) {i j : Nat} {a b : Nat} (hi : l[i]? = some a) (hj : l[j]? = some b) (hij : j ≠ i) : b ≠ a := by
  rcases Nat.lt_or_gt_of_ne hij with h1 | h1
  · exact Nat.ne_of_lt (rise_lt h hj hi h1)
  · exact Nat.ne_of_gt (rise_lt h hi hj h1)
theorem rest_sub {ls : List Cl} {core : List Nat} (h : core.Pairwise (· < ·)) {i q : Nat} (hq : core[i]? = some q) : ∀ c ∈ (subL ls core).take i ++ (subL ls core).drop (i + 1), c ∈ subL ls (core.filter (· != q)) := fun c hc => by
  have hk : ∃ k, k ≠ i ∧ (subL ls core)[k]? = some c := by
    rcases List.mem_append.1 hc with hc | hc
    · obtain ⟨k, hk⟩ := List.mem_iff_getElem?.1 hc
      have h1 := (List.getElem?_eq_some_iff.1 hk).1
      rw [List.length_take] at h1
      rw [List.getElem?_take_of_lt (by omega)] at hk
      exact ⟨k, by omega, hk⟩
    · obtain ⟨k, hk⟩ := List.mem_iff_getElem?.1 hc
      rw [List.getElem?_drop] at hk
      exact ⟨i + 1 + k, by omega, hk⟩
  obtain ⟨k, hne, hk⟩ := hk
  unfold subL at hk
  rw [List.getElem?_map] at hk
  cases hr : core[k]? with
  | none => rw [hr] at hk; cases hk
  | some p =>
    rw [hr] at hk
    have e : ls.getD p [] = c := by simpa using hk
    refine List.mem_map.2 ⟨p, List.mem_filter.2 ⟨List.mem_of_getElem? hr, ?_⟩, e⟩
    have := rise_ne h hq hr hne
    simpa using this
theorem subL_take {ls : List Cl} {core : List Nat} {k q : Nat} (h : core[k]? = some q) {d : Cl} (hd : ls[q]? = some d) : subL ls (core.take (k + 1)) = subL ls (core.take k) ++ [d] := by
  have hi := (List.getElem?_eq_some_iff.1 h).1
  unfold subL
  rw [List.take_succ_eq_append_getElem hi, List.map_append, (List.getElem?_eq_some_iff.1 h).2]
  simp [List.getD, hd]
theorem step_appR {w0 w : World} {ops : Array Oper} {o : Oper} {a : Act} {K : Act → World → Prop} {Q : Exit → Act → World → Prop} {E : Prop} (hgd : o.guard = none) (s x : Operand)
    (ho : o.op = .call { callee := .builtin .append, args := #[s, x], argTypes := #[23, 23] })
    (v y : Value) (hs : a.eval s = v) (hx : a.eval x = y) (ls ks : List (List Int)) (hown : MadeR w0.heap.size w v ls) (hbw : Below w0.heap.size w0 w) (hy : RowsO w v y ks) (hlim : (ls.length + ks.length) * 24 ≤ 140737488355328)
    (h : ∀ v' w', MadeR w0.heap.size w' v' (ls ++ ks) ∧ Below w0.heap.size w0 w' → K (a.put o.dst v') w') : if Region.wanted o (yielded ops a.tmps) = true then Oper.wp Try.prog o a w K Q else E := by
  have hw : Region.wanted o (yielded ops a.tmps) = true := by simp [Region.wanted, hgd]
  rw [if_pos hw]
  obtain ⟨v', w', hr, h2, h3, h4⟩ := run_appR o.type hown hy hlim hbw.size
  unfold Oper.wp execOp
  simp only [ho, resolve, invoke, builtin, Sem.run_bind, Sem.run_pure, Result.andThen_ok, List.map_toArray, List.map_cons, List.map_nil, hs, hx, hr]
  exact h v' w' ⟨h2, hbw.trans h4⟩
theorem MadeR.fresh {w W : World} {H : Nat} (hb : Below w.heap.size w W) (h : W.heap.size = H) : MadeR w.heap.size (W.alloc (.cells #[] 24)) (.slice (some ⟨H, 0, none⟩) 0 0) [] := by
  subst h
  exact MadeR.empty (boxN_alloc W [] 24) hb.size
theorem MadeR.drew {B : Nat} {w : World} {v : Value} {ls : List (List Int)} (h : MadeR B w v ls) : MadeR B w.drew v ls := h.below (below_dr1 (Below.refl _ _))
/-- A part of rows that are told one by one, to a row that is younger. -/
theorem RowsO.part {w0 w : World} {v : Value} {cs : List (List Int)} {g j m c : Nat} (hcell : ∀ i l, cs[i]? = some l → ∃ x n c', w0.cell? ⟨g, i, none⟩ = some (.slice x n c') ∧ IntsV w0 (.slice x n c') l) (hb : Below w0.heap.size w0 w) (hv : ∀ g, v.ownBlock = some g → w0.heap.size ≤ g) (hm : j + m ≤ cs.length) :
    RowsO w v (.slice (some ⟨g, j, none⟩) m c) ((cs.drop j).take m) := by
  have hlen : ((cs.drop j).take m).length = m := by
    rw [List.length_take, List.length_drop]
    omega
  have hone : ∀ i, i < m → ∃ x : Value, w0.cell? ⟨g, j + i, none⟩ = some x ∧ ∀ l, cs[j + i]? = some l → IntsV w0 x l := fun i hi => by
    obtain ⟨x, n, c', h1, h2⟩ := hcell (j + i) cs[j + i] (List.getElem?_eq_getElem (by omega))
    refine ⟨_, h1, fun l hl => ?_⟩
    rw [List.getElem?_eq_getElem (by omega)] at hl
    cases hl
    exact h2
  refine ⟨some ⟨g, j, none⟩, c, fun i => if h : i < m then (hone i h).choose else .slice none 0 0, by rw [hlen], .inr ⟨g, j, rfl, fun i hi => ?_⟩, fun i l hl => ?_⟩
  · rw [hlen] at hi
    simp only [dif_pos hi]
    exact cell_tr hb (hone i hi).choose_spec.1
  · have hi := (List.getElem?_eq_some_iff.1 hl).1
    rw [hlen] at hi
    rw [List.getElem?_take_of_lt hi, List.getElem?_drop] at hl
    simp only [dif_pos hi]
    have h3 := (hone i hi).choose_spec.2 l hl
    exact ⟨h3.below hb, Off.low h3 hv⟩
theorem RowsO.none {w : World} {v : Value} {a : Option Addr} {c : Nat} : RowsO w v (.slice a 0 c) [] := ⟨a, c, fun _ => v, rfl, .inl rfl, fun i l h => by simp at h⟩

set_option maxHeartbeats 8000000 in
set_option maxRecDepth 100000 in
theorem hides_walk {w : World} {vf vm : Value} {fw mo : List (List Int)} (hf : RowsV w vf fw) (hfr : Rng fw) (hm : RowsV w vm mo) (hmr : Rng mo) :
    Calls Try.prog 6 #[vf, vm] w fun e w' => e = .returned (.bool true) ∧ Below w.heap.size w w' := by
  have HA := Lib.hid awake_c
  have HF1 : Hid (∀ W, Below w.heap.size w W → Calls Try.prog 22 #[vf, .int .i64 5, .int .i64 14] W (FoldPost W (foldL 5 fw 14))) := fun W hb => folded_c (n := 5) (most := 14) (by omega) (by omega) (by omega) (hf.below hb) hfr
  have HF2 : Hid (∀ W, Below w.heap.size w W → Calls Try.prog 22 #[vm, .int .i64 30, .int .i64 20] W (FoldPostN W (foldL 30 mo 20))) := fun W hb => foldedN_c (n := 30) (most := 20) (by omega) (by omega) (by omega) (hm.below hb) hmr
  obtain ⟨ax, has⟩ : ∃ ax, foldL 5 fw 14 = ax := ⟨_, rfl⟩
  obtain ⟨ms, hms⟩ : ∃ ms, foldL 30 mo 20 = ms := ⟨_, rfl⟩
  have HAS : Hid ((∀ c ∈ ax, ∀ x ∈ c, Lok 5 x) ∧ ax.length ≤ 14 ∧ ∀ c ∈ ax, c.length ≤ 4) := by
    rw [← has]
    exact ⟨foldL_ok (by omega), foldL_len _ _ _, foldL_short⟩
  have HMS : Hid ((∀ c ∈ ms, ∀ x ∈ c, Lok 30 x) ∧ ms.length ≤ 20 ∧ ∀ c ∈ ms, c.length ≤ 4) := by
    rw [← hms]
    exact ⟨foldL_ok (by omega), foldL_len _ _ _, foldL_short⟩
  rw [has] at HF1
  rw [hms] at HF2
  -- the clauses of all
  obtain ⟨ls, hls⟩ : ∃ ls, ax ++ ms = ls := ⟨_, rfl⟩
  have HLS : Hid ((∀ c ∈ ls, ∀ x ∈ c, Lok 30 x) ∧ ls.length ≤ 34 ∧ ∀ c ∈ ls, c.length ≤ 4) := by
    rw [← hls]
    refine ⟨fun c hc x hx => ?_, by rw [List.length_append]; have := HAS.out.2.1; have := HMS.out.2.1; omega, fun c hc => ?_⟩
    · rcases List.mem_append.1 hc with h | h
      · have := HAS.out.1 c h x hx
        exact ⟨this.1, Nat.le_trans this.2 (by omega)⟩
      · exact HMS.out.1 c h x hx
    · rcases List.mem_append.1 hc with h | h
      · exact HAS.out.2.2 c h
      · exact HMS.out.2.2 c h
  have h30 : (2 : Nat) ^ 30 = 1073741824 := by decide
  have HSOLVE : Hid (∀ (W : World) (v : Value) (ks : List (List Int)), RowsV W v ks → ks.length ≤ 34 → (∀ c ∈ ks, c ∈ ls) → Calls Try.prog 14 #[.int .i64 30, v, .slice none 0 0] W (SolvePost W 30 ks [])) := fun W v ks hv hl hs =>
    solve_c (n := 30) (by omega) hv (IntsV.nil W) (by omega) (fun c hc => Nat.le_trans (HLS.out.2.2 c (hs c hc)) (by omega)) (Nat.zero_le _) (litsB_ok.2 ⟨fun c hc => HLS.out.1 c (hs c hc), fun x hx => by cases hx⟩) (.inl (by omega))
  have HCORE : Hid (∀ (W : World) (v : Value), RowsV W v ls → Calls Try.prog 18 #[.int .i64 30, v] W (CorePost W 30 ls)) := fun W v hv =>
    core_c (n := 30) (by omega) hv (Nat.le_trans HLS.out.2.1 (by omega)) (fun c hc => Nat.le_trans (HLS.out.2.2 c hc) (by omega)) (litsB_ok.2 ⟨HLS.out.1, fun x hx => by cases hx⟩) (by have := HLS.out.2.1; omega)
  have HREF : Hid (∀ (W : World) (v : Value), RowsV W v ax → Calls Try.prog 16 #[.int .i64 5, v, .slice none 0 0] W (RefPost W 5 ax [])) := fun W v hv =>
    refsolve_c (n := 5) (by omega) hv (Nat.le_trans HAS.out.2.1 (by omega)) (fun c hc => Nat.le_trans (HAS.out.2.2 c hc) (by omega)) (IntsV.nil W) (Nat.zero_le _) (litsB_ok.2 ⟨HAS.out.1, fun x hx => by cases hx⟩)
  have HLSE := Lib.hid hls
  clear hf hfr hm hmr has hms hls h30
  go_enter Try.func6, Try.ntmps6
  go_wp2_with fail
  refine (HA.out _).mono ?_
  rintro e w1 ⟨rfl, hb⟩
  have HB1 := Lib.hid hb
  have HC := Lib.hid (HF1.out w1 hb)
  clear hb
  go_wp2_with fail
  refine HC.out.mono ?_
  rintro e w2 ⟨va, rfl, hmade, hb2⟩
  have HB2 : Hid (Below w.heap.size w w2) := below_tr HB1.out hb2
  have HM2 : Hid (MadeR w1.heap.size w2 va ax) := hmade
  have HR := Lib.hid (HREF.out w2 va hmade.rows)
  clear hmade hb2 HC HF1 HREF
  go_wp2_with fail
  refine HR.out.mono ?_
  rintro e w3 ⟨hb3, v3, can, rfl, hres⟩
  have HB3 : Hid (Below w.heap.size w w3) := below_tr HB2.out hb3
  have HM3 : Hid (MadeR w1.heap.size w3 va ax) := HM2.out.below hb3
  clear hb3 HR
  rcases hres with ⟨rfl, x, _, _⟩ | ⟨rfl, rfl, hun⟩
  · go_wp2_with fail
    go_ret
    exact ⟨rfl, HB3.out⟩
  · have HUN : Hid (∀ x, ¬ sat x ls) := fun x hx => hun x fun c hc => hx c (by rw [← HLSE.out]; exact List.mem_append_left _ hc)
    have HB : Hid (Below w3.heap.size w3 (w3.alloc (.cells #[] 24))) := below1 _ _
    have HE := Lib.hid (ch_e1 w3)
    have HR := Lib.hid (ch_e2 HM3.out)
    have HL1 : Hid ((([] : List (List Int)).length + ax.length) * 24 ≤ 140737488355328) := by
      show (([] : List (List Int)).length + ax.length) * 24 ≤ 140737488355328
      have := HAS.out.2.1
      rw [List.length_nil]
      omega
    have hl2 : (([] ++ ax : List (List Int)).length + ms.length) * 24 ≤ 140737488355328 := by
      have := HAS.out.2.1
      have := HMS.out.2.1
      rw [List.nil_append]
      omega
    have HL2 := Lib.hid hl2
    clear hun hl2
    go_wp2_with (first
      | (at_builtin; refine wpList_appR rfl (.tmp 37) (.tmp 38) rfl rfl rfl HE.out HR.out HL1.out HB.out.size ?_; intro v9 w9 hm9 hb9; have HM9 := Lib.hid hm9; have H9 := Lib.hid (HB.out.trans hb9); clear hm9 hb9; have HF9 := Lib.hid (HF2.out w9 (below_tr HB3.out H9.out)))
      | (go_at_call 22; refine HF9.out.mono ?_; rintro e w10 ⟨vm2, rfl, hmade2, hb10⟩; have HM10 := Lib.hid (HM9.out.below hb10); have H10 := Lib.hid (below_tr H9.out hb10); have HRO := Lib.hid (hmade2.rowsO fun g hg => (HM9.out.lt hg).2); clear hmade2 hb10)
      | (at_builtin; refine wpList_appR rfl (.tmp 39) (.tmp 41) rfl rfl rfl HM10.out HRO.out HL2.out H10.out.size ?_; intro v11 w11 hm11 hb11; rw [List.nil_append, HLSE.out] at hm11; have HM11 := Lib.hid hm11; have H11 := Lib.hid (H10.out.trans hb11); have HS11 := Lib.hid (HSOLVE.out w11 v11 ls hm11.rows HLS.out.2.1 (fun c hc => hc)); clear hm11 hb11))
    refine HS11.out.mono ?_
    intro e w12 hpost
    obtain ⟨vs, ok, rfl, hb12, hres⟩ := more_res hpost
    rcases hres with ⟨_, _, x, _, hbest⟩ | ⟨rfl, rfl, _⟩
    · exact absurd hbest.1 (HUN.out x)
    · have HB12 : Hid (Below w.heap.size w w12) := below_tr (below_tr HB3.out H11.out) hb12
      have HM12 : Hid (MadeR w3.heap.size w12 v11 ls) := HM11.out.below hb12
      have HC12 := Lib.hid (HCORE.out w12 v11 HM12.out.rows)
      clear hb12 hpost HS11 HM10 H10 HRO HM9 H9 HF9 HL1 HL2 HE HR HB HCORE HF2
      go_wp2_with fail
      refine HC12.out.mono ?_
      rintro e w13 ⟨hb13, hcase⟩
      rcases hcase with ⟨⟨x, hx⟩, _⟩ | ⟨_, vv, rfl, hrow⟩
      · exact absurd hx (HUN.out x)
      · have HB13 : Hid (Below w.heap.size w w13) := below_tr HB12.out hb13
        have HM13 : Hid (MadeR w3.heap.size w13 v11 ls) := HM12.out.below hb13
        obtain ⟨hs1, hs2, hs3⟩ := coreN_spec HUN.out ls.length
        obtain ⟨core, hcore⟩ : ∃ core, coreF ls = core := ⟨_, rfl⟩
        have HCORE : Hid ((∀ v, ¬ sat v (subL ls core)) ∧ (∀ k ∈ core, k < ls.length) ∧ core.length ≤ 34 ∧ core.Pairwise (· < ·) ∧ core ≠ [] ∧ ∀ q ∈ core, ∃ v, sat v (subL ls (core.filter (· != q)))) := by
          rw [← hcore]
          refine ⟨hs1, hs2, ?_, coreN_rise _ _, core_ne hs1, fun q hq => core_min hq (hs2 q hq)⟩
          have := HLS.out.2.1
          unfold coreF
          omega
        rw [hcore] at hrow
        obtain ⟨N, hN⟩ : ∃ N, core.length = N := ⟨_, rfl⟩
        have hN0 : 0 < N := by
          rw [← hN]
          exact List.length_pos_iff.2 HCORE.out.2.2.2.2.1
        have hN34 : N ≤ 34 := by
          rw [← hN]
          exact HCORE.out.2.2.1
        rw [hN] at hrow
        obtain ⟨gV, cV, rfl, hcV, _⟩ := (ownsRow_form hrow).resolve_left (fun h => by have := h.2; omega)
        have HCV : Hid (∀ k, k < N → ∃ q, core[k]? = some q ∧ w13.cell? ⟨gV, k, none⟩ = some (.int .i64 (q : Int)) ∧ q < ls.length) := fun k hk => by
          have hk' : k < core.length := by omega
          refine ⟨core[k], List.getElem?_eq_getElem hk', ownsRow_cell hrow ?_, HCORE.out.2.1 _ (List.getElem_mem hk')⟩
          unfold natsI
          rw [List.getElem?_map, List.getElem?_eq_getElem hk']
          rfl
        obtain ⟨aL, cL, hvL, hrows⟩ := HM13.out.form
        obtain ⟨L, hL⟩ : ∃ L, ls.length = L := ⟨_, rfl⟩
        rw [hL] at hvL
        subst hvL
        have hL34 : L ≤ 34 := by
          rw [← hL]
          exact HLS.out.2.1
        have HLL := Lib.hid hL
        have HNN := Lib.hid hN
        have HROWS := Lib.hid hrows
        clear hs1 hs2 hs3 hcore hrow hrows hL hN hb13 HC12
        go_wp2_with fail
        go_loopg [16, 17] N (fun gk v16 v17 wx => ∃ (i : Nat) (vc : Value), vc = v16 ∧ v17 = .int .i64 (i : Int) ∧ i ≤ N ∧ N ≤ i + gk ∧ Hid (MadeR w13.heap.size wx vc (subL ls (core.take i)) ∧ Below w13.heap.size w13 wx))
        case atStart => exact ⟨0, _, rfl, rfl, by omega, by omega, MadeR.nil _ _, Below.refl _ _⟩
        case round =>
          obtain ⟨gI, rfl⟩ : ∃ x : Nat, x = gk := ⟨_, rfl⟩
          obtain ⟨i, vc, rfl, rfl, hiN, hik, HT⟩ := hrel
          obtain ⟨w14, hw14⟩ : ∃ x, wr = x := ⟨_, rfl⟩
          rw [hw14] at HT ⊢
          clear hw14
          by_cases hi : i < N
          · have hi1 : (i : Int) < (N : Int) := by omega
            obtain ⟨q, hq, hcq, hqL⟩ := HCV.out i hi
            rw [HLL.out] at hqL
            have HCQ := Lib.hid hcq
            have HQ := Lib.hid hq
            obtain ⟨d, hd⟩ : ∃ d, ls[q]? = some d := ⟨_, List.getElem?_eq_getElem (by rw [HLL.out]; exact hqL)⟩
            obtain ⟨gL, xd, nd, cd, haL, hcd, hid⟩ := HROWS.out q d hd
            subst haL
            have HCD := Lib.hid hcd
            have HID := Lib.hid hid
            have HTK := Lib.hid (subL_take hq hd)
            have c0 := cell_tr HT.out.2 hcq
            have e1 : decide ((q : Int) < 0) = false := by simp only [decide_eq_false_iff_not]; omega
            have e2 : decide (L ≤ q) = false := by simp only [decide_eq_false_iff_not]; omega
            have e3 : decide ((L : Int) ≤ (q : Int)) = false := by simp only [decide_eq_false_iff_not]; omega
            clear hd hcd hid hq hcq
            go_upto_region 15 with fail
            go_cut [103] from 74 to 113 (fun v103 wx => v103 = .bool false ∧ Hid (Below w14.heap.size w14 wx))
            case first =>
              cases i with
              | zero =>
                go_quiet (fail)
                go_wp2_with fail
                go_meet
                case rel => exact ⟨rfl, below_dr (Below.refl _ _) _⟩
              | succ m =>
                obtain ⟨q0, hq0, hcq0, hq0L⟩ := HCV.out m (by omega)
                have c1 := cell_tr HT.out.2 hcq0
                have hlt := rise_lt HCORE.out.2.2.2.1 hq0 HQ.out (by omega)
                have f1 : (((m + 1 : Nat) : Int) - 1).toNat = m := by omega
                have f2 : IntKind.i64.wrap (((m + 1 : Nat) : Int) - 1) = (m : Int) := by rw [IntWalk.i64_in _ (by omega)]; omega
                have f3 : decide ((0 : Int) < ((m + 1 : Nat) : Int)) = true := by simp only [decide_eq_true_eq]; omega
                have f4 : decide (q ≤ q0) = false := by simp only [decide_eq_false_iff_not]; omega
                have f5 : decide ((q : Int) ≤ (q0 : Int)) = false := by simp only [decide_eq_false_iff_not]; omega
                clear hq0 hcq0
                go_quiet (fail)
                go_wp2_with fail
                go_meet
                case rel => exact ⟨rfl, below_dr (Below.refl _ _) _⟩
            case rest =>
              obtain ⟨rfl, HW⟩ := hcut
              obtain ⟨w15, rfl⟩ : ∃ x : World, x = wc := ⟨_, rfl⟩
              have HB15 : Hid (Below w13.heap.size w13 w15) := below_tr HT.out.2 HW.out
              have c2 : w15.cell? ⟨gV, i, none⟩ = some (.int .i64 (q : Int)) := cell_tr HB15.out HCQ.out
              have c3 : w15.cell? ⟨gL, q, none⟩ = some (.slice xd nd cd) := cell_tr HB15.out HCD.out
              have hqL1 : (q : Int) < (L : Int) := by omega
              have HMM : Hid (MadeR w13.heap.size (w15.alloc (.cells #[.slice xd nd cd] 24)) vc (subL ls (core.take i))) := (HT.out.1.below HW.out).below (below1 _ _)
              have HRR : Hid (RowsO (w15.alloc (.cells #[.slice xd nd cd] 24)) vc (.slice (some ⟨w15.heap.size, 0, none⟩) 1 1) [d]) :=
                RowsO.one (boxN_alloc w15 [.slice xd nd cd] 24) (HID.out.below (below_tr HB15.out (below1 _ _))) (Off.low HID.out fun g hg => (HT.out.1.lt hg).1)
              have HSZ : Hid (Below w13.heap.size w13 (w15.alloc (.cells #[.slice xd nd cd] 24))) := below_tr HB15.out (below1 _ _)
              have hl3 : ((subL ls (core.take i)).length + 1) * 24 ≤ 140737488355328 := by
                unfold subL
                rw [List.length_map, List.length_take]
                omega
              have HL3 := Lib.hid hl3
              clear hl3 c0 e1 e2 e3
              go_wp2_with (at_builtin; refine wpList_appR rfl (.tmp 104) (.tmp 112) rfl rfl rfl HMM.out HRR.out HL3.out HSZ.out.size ?_; intro v9 w9 hm9 hb9; replace hm9 := Lib.hid hm9; replace hb9 := Lib.hid hb9)
              go_roundg (gI - 1)
              case measure => omega
              case rel => exact ⟨i + 1, _, rfl, by go_num, by omega, by omega, by
                rw [HTK.out]
                exact hm9.out, HSZ.out.trans hb9.out⟩
          · have hi1 : ¬ (i : Int) < (N : Int) := by omega
            have hct : core.take i = core := List.take_of_length_le (by rw [HNN.out]; omega)
            rw [hct] at HT
            obtain ⟨cs, hcs⟩ : ∃ cs, subL ls core = cs := ⟨_, rfl⟩
            have HCS : Hid (cs.length = N ∧ (∀ c ∈ cs, c ∈ ls) ∧ (∀ x, ¬ sat x cs) ∧ ∀ i, i < N → ∃ x, sat x (cs.take i ++ cs.drop (i + 1))) := by
              rw [← hcs]
              refine ⟨by unfold subL; rw [List.length_map]; exact HNN.out, fun c hc => ?_, HCORE.out.1, fun i hi => ?_⟩
              · obtain ⟨k, hk, rfl⟩ := List.mem_map.1 hc
                have hk2 := HCORE.out.2.1 k hk
                simp only [List.getD, List.getElem?_eq_getElem hk2, Option.getD_some]
                exact List.getElem_mem hk2
              · obtain ⟨q, hq, _⟩ := HCV.out i hi
                obtain ⟨x, hx⟩ := HCORE.out.2.2.2.2.2 q (List.mem_of_getElem? hq)
                exact ⟨x, fun c hc => hx c (rest_sub HCORE.out.2.2.2.1 hq c hc)⟩
            rw [hcs] at HT
            obtain ⟨aC, cC, hvC, hrowC⟩ := HT.out.1.form
            rw [HCS.out.1] at hvC
            subst hvC
            obtain ⟨gC, _, _, _, haC, _⟩ := hrowC 0 _ (List.getElem?_eq_getElem (by rw [HCS.out.1]; exact hN0))
            subst haC
            have HRC : Hid (∀ i l, cs[i]? = some l → ∃ x n c', w14.cell? ⟨gC, i, none⟩ = some (.slice x n c') ∧ IntsV w14 (.slice x n c') l) := fun i l hl => by
              obtain ⟨g, x, n, c', hg, h1, h2⟩ := hrowC i l hl
              cases hg
              exact ⟨x, n, c', h1, h2⟩
            have hNC : N ≤ cC := by
              have := HT.out.1.rows
              obtain ⟨_, c', _, e, h1, _⟩ := this
              cases e
              omega
            have HB14 : Hid (Below w.heap.size w w14) := below_tr HB13.out HT.out.2
            have HS14 := Lib.hid (HSOLVE.out w14 _ cs HT.out.1.rows (by rw [HCS.out.1]; exact hN34) HCS.out.2.1)
            clear hcs hct hrowC
            go_wp2_with fail
            refine HS14.out.mono ?_
            intro e w16 hpost
            obtain ⟨vs, ok, rfl, hb16, hres⟩ := more_res hpost
            rcases hres with ⟨_, _, x, _, hbest⟩ | ⟨rfl, rfl, _⟩
            · exact absurd hbest.1 (HCS.out.2.2.1 x)
            · have HB16 : Hid (Below w14.heap.size w14 w16) := hb16
              clear hb16 hpost HS14
              go_wp2_with fail
              go_loopg [21] N (fun gk v21 wx => ∃ i : Nat, v21 = .int .i64 (i : Int) ∧ i ≤ N ∧ N ≤ i + gk ∧ Hid (Below w14.heap.size w14 wx))
              case atStart => exact ⟨0, rfl, by omega, by omega, HB16.out⟩
              case round =>
                obtain ⟨gJ, rfl⟩ : ∃ x : Nat, x = gk := ⟨_, rfl⟩
                obtain ⟨j, rfl, hjN, hjk, HJ⟩ := hrel
                obtain ⟨w17, hw17⟩ : ∃ x, wr = x := ⟨_, rfl⟩
                rw [hw17] at HJ ⊢
                clear hw17
                by_cases hj : j < N
                · have hj1 : (j : Int) < (N : Int) := by omega
                  go_upto_region 24 with fail
                  go_cut [22] from 127 to 154 (fun v22 wx => ∃ vr : Value, vr = v22 ∧ Hid (MadeR w17.heap.size wx vr (cs.take j ++ cs.drop (j + 1)) ∧ Below w17.heap.size w17 wx))
                  case first =>
                    have HP1 : Hid (∀ (W : World) (v : Value), Below w17.heap.size w17 W → (∀ g, v.ownBlock = some g → w17.heap.size ≤ g) → ∀ c, RowsO W v (.slice (some ⟨gC, 0, none⟩) j c) (cs.take j)) := fun W v hb hv c => by
                      have h := RowsO.part (j := 0) (m := j) (c := c) HRC.out (below_tr HJ.out hb) (fun g hg => Nat.le_trans HJ.out.size (hv g hg)) (by rw [HCS.out.1]; omega)
                      rw [List.drop_zero] at h
                      exact h
                    have HP2 : Hid (∀ (a : Option Addr) (m c : Nat), m = N - (j + 1) → (a = some ⟨gC, j + 1, none⟩ ∨ m = 0) → ∀ (W : World) (v : Value), Below w17.heap.size w17 W → (∀ g, v.ownBlock = some g → w17.heap.size ≤ g) → RowsO W v (.slice a m c) (cs.drop (j + 1))) := fun a m c hm ha W v hb hv => by
                      by_cases h0 : m = 0
                      · have e : cs.drop (j + 1) = [] := List.drop_of_length_le (by rw [HCS.out.1]; omega)
                        rw [e, h0]
                        exact RowsO.none
                      · rcases ha with ha | ha
                        · have h := RowsO.part (j := j + 1) (m := m) (c := c) HRC.out (below_tr HJ.out hb) (fun g hg => Nat.le_trans HJ.out.size (hv g hg)) (by rw [HCS.out.1]; omega)
                          rw [List.take_of_length_le (by rw [List.length_drop, HCS.out.1]; omega)] at h
                          rw [ha]
                          exact h
                        · exact absurd ha h0
                    have hl4 : (([] : List (List Int)).length + (cs.take j).length) * 24 ≤ 140737488355328 := by
                      rw [List.length_nil, List.length_take]
                      omega
                    have hl5 : (([] ++ cs.take j : List (List Int)).length + (cs.drop (j + 1)).length) * 24 ≤ 140737488355328 := by
                      rw [List.nil_append, List.length_take, List.length_drop, HCS.out.1]
                      omega
                    have HL4 := Lib.hid hl4
                    have HL5 := Lib.hid hl5
                    have g1 : (j : Int) ≤ (cC : Int) := by omega
                    have g2 : (j : Int) + 1 ≤ (N : Int) := by omega
                    have g3 : (j : Int) + 1 ≤ (cC : Int) := by omega
                    have g4 : j ≤ cC := by omega
                    have g5 : j + 1 ≤ N := by omega
                    clear hl4 hl5
                    by_cases hcap : j + 1 = cC
                    · have hm0 : N - (j + 1) = 0 := by omega
                      have g6 : cC = j + 1 := by omega
                      subst g6
                      clear hcap
                      have t1 : (j : Int) ≤ ((j + 1 : Nat) : Int) := by omega
                      have t2 : (j : Int) ≤ (j : Int) + 1 := by omega
                      have t3 : j ≤ j + 1 := by omega
                      have t4 : (j : Int) + 1 ≤ (j : Int) + 1 := by omega
                      have s2 : (0 : Int) ≤ (j : Int) + 1 := by omega
                      have s3 : ((j : Int) + 1).toNat = j + 1 := by omega
                      have s1 : IntKind.i64.wrap ((j : Int) + 1) = (j : Int) + 1 := IntWalk.i64_in _ (by omega)
                      go_region_held3 (fun W => Below w17.heap.size w17 W)
                        (first | exact (Below.refl _ _).drew | exact ((Below.refl _ _).alloc (Nat.le_refl _) _).drew | exact h6.2 | exact h5.2)
                        ((first
                          | (refine step_appR (w0 := w17) (by rfl) (.tmp 127) (.tmp 130) (by rfl) _ _ (by rfl) (by rfl) [] (cs.take j) (by first | exact (MadeR.fresh (Below.refl _ _) rfl).drew) (by first | exact ((Below.refl _ _).alloc (Nat.le_refl _) _).drew) (HP1.out _ _ (by first | exact ((Below.refl _ _).alloc (Nat.le_refl _) _).drew) (fun g hg => by cases hg; exact Nat.le_refl _) _) HL4.out ?_; intro v5 w5 h5)
                          | (refine step_appR (w0 := w17) (by rfl) (.tmp 131) (.tmp 135) (by rfl) v5 _ (by rfl) (by rfl) ([] ++ cs.take j) (cs.drop (j + 1)) h5.1 h5.2 (HP2.out _ _ _ (by first | rfl | exact hm0.symm) (by first | exact .inl rfl | exact .inr rfl | exact .inr hm0) _ _ h5.2 (fun g hg => (h5.1.lt hg).1)) HL5.out ?_; intro v6 w6 h6)))
                      all_goals
                        clear s1 s3
                        have HV6 : Hid (MadeR w17.heap.size w6 v6 (cs.take j ++ cs.drop (j + 1)) ∧ Below w17.heap.size w17 w6) := by
                          have h7 := h6.1
                          rw [List.nil_append] at h7
                          exact ⟨h7, h6.2⟩
                        clear h5 h6
                        go_wp2_with fail
                        go_meet
                        case rel => exact ⟨_, rfl, HV6.out⟩
                    · have g6 : ¬ cC = j + 1 := by omega
                      have s2 : (0 : Int) ≤ (j : Int) + 1 := by omega
                      have s3 : ((j : Int) + 1).toNat = j + 1 := by omega
                      have s1 : IntKind.i64.wrap ((j : Int) + 1) = (j : Int) + 1 := IntWalk.i64_in _ (by omega)
                      go_region_held3 (fun W => Below w17.heap.size w17 W)
                        (first | exact (Below.refl _ _).drew | exact ((Below.refl _ _).alloc (Nat.le_refl _) _).drew | exact h6.2 | exact h5.2)
                        ((first
                          | (refine step_appR (w0 := w17) (by rfl) (.tmp 127) (.tmp 130) (by rfl) _ _ (by rfl) (by rfl) [] (cs.take j) (by first | exact (MadeR.fresh (Below.refl _ _) rfl).drew) (by first | exact ((Below.refl _ _).alloc (Nat.le_refl _) _).drew) (HP1.out _ _ (by first | exact ((Below.refl _ _).alloc (Nat.le_refl _) _).drew) (fun g hg => by cases hg; exact Nat.le_refl _) _) HL4.out ?_; intro v5 w5 h5)
                          | (refine step_appR (w0 := w17) (by rfl) (.tmp 131) (.tmp 135) (by rfl) v5 _ (by rfl) (by rfl) ([] ++ cs.take j) (cs.drop (j + 1)) h5.1 h5.2 (HP2.out _ _ _ (by first | rfl | exact hm0.symm) (by first | exact .inl rfl | exact .inr rfl | exact .inr hm0) _ _ h5.2 (fun g hg => (h5.1.lt hg).1)) HL5.out ?_; intro v6 w6 h6)))
                      all_goals
                        clear s1 s3
                        have HV6 : Hid (MadeR w17.heap.size w6 v6 (cs.take j ++ cs.drop (j + 1)) ∧ Below w17.heap.size w17 w6) := by
                          have h7 := h6.1
                          rw [List.nil_append] at h7
                          exact ⟨h7, h6.2⟩
                        clear h5 h6
                        go_wp2_with fail
                        go_meet
                        case rel => exact ⟨_, rfl, HV6.out⟩
                  case rest =>
                    obtain ⟨vr, rfl, HV⟩ := hcut
                    obtain ⟨w18, rfl⟩ : ∃ x : World, x = wc := ⟨_, rfl⟩
                    obtain ⟨rs, hrs⟩ : ∃ rs, cs.take j ++ cs.drop (j + 1) = rs := ⟨_, rfl⟩
                    have HRS : Hid (rs.length ≤ 34 ∧ (∀ c ∈ rs, c ∈ ls) ∧ ∃ x, sat x rs) := by
                      rw [← hrs]
                      refine ⟨by rw [List.length_append, List.length_take, List.length_drop, HCS.out.1]; omega, fun c hc => ?_, HCS.out.2.2.2 j hj⟩
                      rcases List.mem_append.1 hc with h | h
                      · exact HCS.out.2.1 c (List.mem_of_mem_take h)
                      · exact HCS.out.2.1 c (List.mem_of_mem_drop h)
                    rw [hrs] at HV
                    have HS18 := Lib.hid (HSOLVE.out w18 vr rs HV.out.1.rows HRS.out.1 HRS.out.2.1)
                    clear hrs
                    go_wp2_with fail
                    refine HS18.out.mono ?_
                    intro e w19 hpost
                    obtain ⟨vs, ok, rfl, hb19, hres⟩ := more_res hpost
                    rcases hres with ⟨rfl, ⟨gs, rfl⟩, x, hbx, hbest⟩ | ⟨_, _, hno⟩
                    · have HB19 : Hid (Below w14.heap.size w14 w19) := below_tr (below_tr HJ.out HV.out.2) hb19
                      have HA19 := Lib.hid (all_c hbx (by omega) (HV.out.1.below hb19).rows (Nat.le_trans HRS.out.1 (by omega)) (fun c hc => Nat.le_trans (HLS.out.2.2 c (HRS.out.2.1 c hc)) (by omega)) (fun c hc => HLS.out.1 c (HRS.out.2.1 c hc)))
                      rw [allB_sat.2 hbest.1] at HA19
                      have k1 : (((30 : Nat) : Int) != 30) = false := rfl
                      clear hb19 hpost hbx hbest HS18
                      go_wp2_with fail
                      refine HA19.out.mono ?_
                      rintro e w20 ⟨rfl, rfl⟩
                      go_wp2_with fail
                      go_roundg (gJ - 1)
                      case measure => omega
                      case rel => exact ⟨j + 1, by go_num, by omega, by omega, HB19.out⟩
                    · obtain ⟨x, hx⟩ := HRS.out.2.2
                      exact absurd hx (hno x)
                · have hj1 : ¬ (j : Int) < (N : Int) := by omega
                  have HB17 : Hid (Below w.heap.size w w17) := below_tr HB14.out HJ.out
                  go_wp2_with fail
                  go_ret
                  exact ⟨rfl, HB17.out⟩
end Go.Proofs.Ytkeagjphddcjeaa
