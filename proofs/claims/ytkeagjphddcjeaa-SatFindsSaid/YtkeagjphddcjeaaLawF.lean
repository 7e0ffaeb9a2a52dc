/-
  SatFinds: the walk. Helper text; the conditions are those typed.
-/
import Derived.Test.YtkeagjphddcjeaaSolW
import Derived.Test.YtkeagjphddcjeaaLawM
namespace Go.Proofs.Ytkeagjphddcjeaa
set_option linter.unusedVariables false
set_option linter.unusedSimpArgs false
open Go.RowKit Go.Maps Sat

theorem IntsV.slice {w : World} {v : Value} {zs : List Int} (h : IntsV w v zs) : ∃ a n c, v = .slice a n c := by
  obtain ⟨a, c, e, _⟩ := h
  exact ⟨a, _, c, e⟩
theorem best_same {n : Nat} {ls : List Cl} {pr : List Int} {v u : Asg} (h : Best n ls pr v) (k : Best n ls pr u) : bsOf n v = bsOf n u := by
  unfold bsOf
  exact List.map_congr_left fun i hi => Best.unique h k i (List.mem_range.1 hi)

set_option maxHeartbeats 8000000 in
set_option maxRecDepth 100000 in
theorem finds_bad {w : World} {z q : Int} {vl vp : Value} {ls : List (List Int)} (hq : (q == 0) = false) (hl : RowsV w vl ls) (hls : ls.length * 24 ≤ 140737488351232) (hlb : ∀ c ∈ ls, c.length * 8 ≤ 140737488351232)
    (h12 : ∀ W, Below w.heap.size w W → Calls Try.prog 12 #[.int .i64 z, vl, vp] W fun e w' => e = .returned (.int .i64 q) ∧ w' = W)
    (h14 : ∀ W v, Below w.heap.size w W → RowsV W v ls → Calls Try.prog 14 #[.int .i64 z, v, vp] W fun e w' => e = .returned (.tuple #[.slice none 0 0, .bool false, .int .i64 q]) ∧ Below W.heap.size W w') :
    Calls Try.prog 4 #[.int .i64 z, vl, vp] w fun e w' => e = .returned (.bool true) ∧ Below w.heap.size w w' := by
  have HA := Lib.hid awake_c
  have H12 := Lib.hid h12
  have H14 := Lib.hid h14
  have HRV := Lib.hid hl
  have HOWN := Lib.hid (fun (W : World) (hb : Below w.heap.size w W) => lawown_c (hl.below hb) (by omega) (fun c hc => by have := hlb c hc; omega))
  have HSTILL := Lib.hid (fun (W : World) (v : Value) (hb : Below w.heap.size w W) (hv : RowsV W v ls) => still_c hv (hl.below hb) (by omega) (fun c hc => by have := hlb c hc; unfold maxLen; omega))
  have hqq : (q != q) = false := by simp
  have hq2 : (q != 0) = true := by simp [bne, hq]
  clear hl hls hlb h12 h14
  go_enter Try.func4, Try.ntmps4
  go_wp2_with fail
  refine (HA.out _).mono ?_
  rintro e w1 ⟨rfl, hb⟩
  have HB1 := Lib.hid hb
  have HC := Lib.hid (H12.out w1 hb)
  clear hb
  go_wp2_with fail
  refine HC.out.mono ?_
  rintro e w2 ⟨rfl, rfl⟩
  have HO := Lib.hid (HOWN.out w2 HB1.out)
  go_wp2_with fail
  refine HO.out.mono ?_
  rintro e w3 ⟨vL, rfl, hmade, hb3⟩
  have HB3 : Hid (Below w.heap.size w w3) := below_tr HB1.out hb3
  have HRL := Lib.hid hmade.rows
  have HS := Lib.hid (H14.out w3 vL HB3.out hmade.rows)
  clear hmade hb3
  go_wp2_with fail
  refine HS.out.mono ?_
  rintro e w4 ⟨rfl, hb4⟩
  have HB4 : Hid (Below w.heap.size w w4) := below_tr HB3.out hb4
  have HST := Lib.hid (HSTILL.out w4 vL HB4.out (HRL.out.below hb4))
  clear hb4
  go_wp2_with fail
  refine HST.out.mono ?_
  rintro e w5 ⟨rfl, q5, hw5⟩
  have HB5 : Hid (Below w.heap.size w w5) := by
    rw [hw5]
    exact below_dr HB4.out q5
  clear hw5
  go_wp2_with fail
  go_ret
  exact ⟨rfl, HB5.out⟩

set_option maxHeartbeats 8000000 in
set_option maxRecDepth 100000 in
theorem finds_big {w : World} {n : Nat} {L : Nat} {a0 : Option Addr} {cl : Nat} {vp : Value} (hL : L ≤ 9223372036854775807) (hbig : 10 < n ∨ 40 < L)
    (h12 : ∀ W, Below w.heap.size w W → Calls Try.prog 12 #[.int .i64 (n : Int), .slice a0 L cl, vp] W fun e w' => e = .returned (.int .i64 0) ∧ w' = W) :
    Calls Try.prog 4 #[.int .i64 (n : Int), .slice a0 L cl, vp] w fun e w' => e = .returned (.bool true) ∧ Below w.heap.size w w' := by
  have HA := Lib.hid awake_c
  have H12 := Lib.hid h12
  clear h12
  by_cases h10 : 10 < n
  · have h1 : (10 : Int) < (n : Int) := by omega
    clear hbig h10
    go_enter Try.func4, Try.ntmps4
    go_wp2_with fail
    refine (HA.out _).mono ?_
    rintro e w1 ⟨rfl, hb⟩
    have HB1 := Lib.hid hb
    have HC := Lib.hid (H12.out w1 hb)
    clear hb
    go_wp2_with fail
    refine HC.out.mono ?_
    rintro e w2 ⟨rfl, rfl⟩
    go_wp2_with fail
    go_ret
    exact ⟨rfl, HB1.out⟩
  · have h1 : ¬ (10 : Int) < (n : Int) := by omega
    have h2 : (40 : Int) < (L : Int) := by omega
    clear hbig h10
    go_enter Try.func4, Try.ntmps4
    go_wp2_with fail
    refine (HA.out _).mono ?_
    rintro e w1 ⟨rfl, hb⟩
    have HB1 := Lib.hid hb
    have HC := Lib.hid (H12.out w1 hb)
    clear hb
    go_wp2_with fail
    refine HC.out.mono ?_
    rintro e w2 ⟨rfl, rfl⟩
    go_wp2_with fail
    go_ret
    exact ⟨rfl, HB1.out⟩

set_option maxHeartbeats 8000000 in
set_option maxRecDepth 100000 in
theorem finds_small {w : World} {n : Nat} {L : Nat} {a0 : Option Addr} {cl : Nat} {vp : Value} {ls : List (List Int)} {pr : List Int} (hn : n ≤ 10) (hL : L ≤ 40) (hLL : ls.length = L) (hl : RowsV w (.slice a0 L cl) ls) (hp : IntsV w vp pr) (hlb : ∀ c ∈ ls, c.length * 8 ≤ 140737488351232) (hpb : pr.length * 8 ≤ 140737488351232) (hok : litsB n ls pr = true)
    (h12 : ∀ W, Below w.heap.size w W → Calls Try.prog 12 #[.int .i64 (n : Int), .slice a0 L cl, vp] W fun e w' => e = .returned (.int .i64 0) ∧ w' = W) :
    Calls Try.prog 4 #[.int .i64 (n : Int), .slice a0 L cl, vp] w fun e w' => e = .returned (.bool true) ∧ Below w.heap.size w w' := by
  have HA := Lib.hid awake_c
  have H12 := Lib.hid h12
  have hok0 : litsB n ls [] = true := litsB_ok.2 ⟨(litsB_ok.1 hok).1, fun x hx => by cases hx⟩
  have hp2 := (two_pow_le hn).2
  have HOWN := Lib.hid (fun (W : World) (hb : Below w.heap.size w W) => lawown_c (hl.below hb) (by omega) (fun c hc => by have := hlb c hc; omega))
  have HSTILL := Lib.hid (fun (W : World) (v : Value) (hb : Below w.heap.size w W) (hv : RowsV W v ls) => still_c hv (hl.below hb) (by omega) (fun c hc => by have := hlb c hc; unfold maxLen; omega))
  have HSOLVE := Lib.hid (fun (W : World) (v : Value) (hb : Below w.heap.size w W) (hv : RowsV W v ls) => solve_c (n := n) (by omega) hv (hp.below hb) (by omega) (fun c hc => by have := hlb c hc; omega) (by omega) hok (.inl (by omega)))
  have HREF := Lib.hid (fun (W : World) (hb : Below w.heap.size w W) => refsolve_c hn (hl.below hb) (by omega) (fun c hc => by have := hlb c hc; omega) (hp.below hb) (by omega) hok)
  have HCORE := Lib.hid (fun (W : World) (hb : Below w.heap.size w W) => core_c (n := n) (by omega) (hl.below hb) (by omega) (fun c hc => by have := hlb c hc; omega) hok0 (by omega))
  have HRC := Lib.hid (fun (W : World) (hb : Below w.heap.size w W) => refcore_c hn (hl.below hb) (by omega) (fun c hc => by have := hlb c hc; omega) hok0)
  have HCL : Hid ((coreF ls).length ≤ 40 ∨ ∃ v, sat v ls) := by
    by_cases h : ∃ v, sat v ls
    · exact .inr h
    · refine .inl ?_
      have := (coreN_spec (ls := ls) (fun v hv => h ⟨v, hv⟩) ls.length).2.2
      unfold coreF
      omega
  have h1 : ¬ (10 : Int) < (n : Int) := by omega
  have h2 : ¬ (40 : Int) < (L : Int) := by omega
  clear hl hp hlb hpb hok hok0 h12 hLL hp2
  go_enter Try.func4, Try.ntmps4
  go_wp2_with fail
  refine (HA.out _).mono ?_
  rintro e w1 ⟨rfl, hb⟩
  have HB1 := Lib.hid hb
  have HC := Lib.hid (H12.out w1 hb)
  clear hb
  go_wp2_with fail
  refine HC.out.mono ?_
  rintro e w2 ⟨rfl, rfl⟩
  have HO := Lib.hid (HOWN.out w2 HB1.out)
  go_wp2_with fail
  refine HO.out.mono ?_
  rintro e w3 ⟨vL, rfl, hmade, hb3⟩
  have HB3 : Hid (Below w.heap.size w w3) := below_tr HB1.out hb3
  have HRL := Lib.hid hmade.rows
  have HS := Lib.hid (HSOLVE.out w3 vL HB3.out hmade.rows)
  clear hmade hb3
  go_wp2_with fail
  refine HS.out.mono ?_
  intro e w4 hpost
  obtain ⟨va, ok, rfl, hb4, hres⟩ := more_res hpost
  have HB4 : Hid (Below w.heap.size w w4) := below_tr HB3.out hb4
  have HRES := Lib.hid hres
  have HST := Lib.hid (HSTILL.out w4 vL HB4.out (HRL.out.below hb4))
  clear hb4 hpost hres HS HO
  go_wp2_with fail
  refine HST.out.mono ?_
  rintro e w5 ⟨rfl, q5, hw5⟩
  have HB45 : Hid (Below w4.heap.size w4 w5) := by
    rw [hw5]
    exact below_dr (Below.refl _ _) q5
  have HB5 : Hid (Below w.heap.size w w5) := below_tr HB4.out HB45.out
  have HR := Lib.hid (HREF.out w5 HB5.out)
  clear hw5 HST
  go_wp2_with fail
  refine HR.out.mono ?_
  rintro e w6 ⟨hb6, vw, is, rfl, hres⟩
  have HRES2 := Lib.hid hres
  have HB46 : Hid (Below w4.heap.size w4 w6) := below_tr HB45.out hb6
  have HB6 : Hid (Below w.heap.size w w6) := below_tr HB5.out hb6
  have HC6 : Hid (∀ W, Below w6.heap.size w6 W → Calls Try.prog 18 #[.int .i64 (n : Int), .slice a0 L cl] W (CorePost W n ls)) := fun W hb => HCORE.out W (below_tr HB6.out hb)
  have HRC6 : Hid (∀ W, Below w6.heap.size w6 W → Calls Try.prog 19 #[.int .i64 (n : Int), .slice a0 L cl] W (RefCorePost W n ls)) := fun W hb => HRC.out W (below_tr HB6.out hb)
  clear hb6 hres HR HREF HCORE HRC HSOLVE HSTILL HOWN
  rcases HRES.out with ⟨rfl, ⟨gv, rfl⟩, v, hbv, hbest⟩ | ⟨rfl, rfl, hun⟩
  · rcases HRES2.out with ⟨rfl, u, hbu, hbest2⟩ | ⟨_, _, hun2⟩
    · have HS := Lib.hid (sameB_c (hbv.below HB46.out) hbu (by rw [bsOf_len]; unfold maxLen; omega) (by rw [bsOf_len]; unfold maxLen; omega))
      have HEQ : Hid (decide (bsOf n v = bsOf n u) = true) := decide_eq_true (best_same hbest hbest2)
      rw [HEQ.out] at HS
      have HSAT : Hid (sat v ls) := hbest.1
      clear hbv hbest hbu hbest2 HRES HRES2
      go_wp2_with fail
      refine HS.out.mono ?_
      rintro e w7 ⟨rfl, q7, hw7⟩
      have HB67 : Hid (Below w6.heap.size w6 w7) := by
        rw [hw7]
        exact below_dr (Below.refl _ _) q7
      have HC7 := Lib.hid (HC6.out w7 HB67.out)
      clear hw7 HS
      go_wp2_with fail
      refine HC7.out.mono ?_
      rintro e w8 ⟨hb8, hcase⟩
      rcases hcase with ⟨_, rfl⟩ | ⟨hno, _⟩
      · have HB68 : Hid (Below w6.heap.size w6 w8) := below_tr HB67.out hb8
        have HC8 := Lib.hid (HRC6.out w8 HB68.out)
        clear hb8
        go_wp2_with fail
        refine HC8.out.mono ?_
        rintro e w9 ⟨hb9, hcase⟩
        rcases hcase with ⟨_, rfl⟩ | ⟨hno, _⟩
        · have HB9 : Hid (Below w.heap.size w w9) := below_tr HB6.out (below_tr HB68.out hb9)
          have HS := Lib.hid (sameI_c (IntsV.nil w9) (IntsV.nil w9) (by decide) (by decide))
          rw [show decide (([] : List Int) = []) = true from rfl] at HS
          clear hb9
          go_wp2_with fail
          refine HS.out.mono ?_
          rintro e w10 ⟨rfl, q10, hw10⟩
          have HB10 : Hid (Below w.heap.size w w10) := by
            rw [hw10]
            exact below_dr HB9.out q10
          clear hw10
          go_wp2_with fail
          go_ret
          exact ⟨rfl, HB10.out⟩
        · exact absurd HSAT.out (hno v)
      · exact absurd HSAT.out (hno v)
    · exact absurd hbest.1 (hun2 v)
  · rcases HRES2.out with ⟨_, u, hbu, hbest2⟩ | ⟨rfl, rfl, hun2⟩
    · exact absurd hbest2.1 (hun u)
    · have HS := Lib.hid (sameB_c (BoolsV.nil w6) (BoolsV.nil w6) (by decide) (by decide))
      rw [show decide (([] : List Bool) = []) = true from rfl] at HS
      have HUN := Lib.hid hun
      have HCLN : Hid ((coreF ls).length ≤ 40) := HCL.out.resolve_right fun ⟨v, hv⟩ => hun v hv
      clear hun hun2 HRES HRES2
      go_wp2_with fail
      refine HS.out.mono ?_
      rintro e w7 ⟨rfl, q7, hw7⟩
      have HB67 : Hid (Below w6.heap.size w6 w7) := by
        rw [hw7]
        exact below_dr (Below.refl _ _) q7
      have HC7 := Lib.hid (HC6.out w7 HB67.out)
      clear hw7 HS
      go_wp2_with fail
      refine HC7.out.mono ?_
      rintro e w8 ⟨hb8, hcase⟩
      rcases hcase with ⟨⟨v, hv⟩, _⟩ | ⟨_, vc, rfl, hrow⟩
      · exact absurd hv (HUN.out v)
      · have HB68 : Hid (Below w6.heap.size w6 w8) := below_tr HB67.out hb8
        have HIC : Hid (IntsV w8 vc (nI (coreF ls))) := IntsV.own (by rw [intsI_nI]; exact hrow) (by rw [nI_len])
        have HC8 := Lib.hid (HRC6.out w8 HB68.out)
        clear hb8 hrow HC7
        go_wp2_with fail
        refine HC8.out.mono ?_
        rintro e w9 ⟨hb9, hcase⟩
        rcases hcase with ⟨⟨v, hv⟩, _⟩ | ⟨_, vd, rfl, hrow⟩
        · exact absurd hv (HUN.out v)
        · have HB9 : Hid (Below w.heap.size w w9) := below_tr HB6.out (below_tr HB68.out hb9)
          have hid : IntsV w9 vd (nI (coreF ls)) := IntsV.own (by rw [intsI_nI]; exact hrow) (by rw [nI_len])
          have hlen : (nI (coreF ls)).length ≤ maxLen := by
            have := HCLN.out
            rw [nI_len]
            unfold maxLen
            omega
          have HS := Lib.hid (sameI_c (HIC.out.below hb9) hid hlen hlen)
          rw [show decide (nI (coreF ls) = nI (coreF ls)) = true from by simp] at HS
          clear hb9 hrow hid hlen HC8
          go_wp2_with fail
          refine HS.out.mono ?_
          rintro e w10 ⟨rfl, q10, hw10⟩
          have HB10 : Hid (Below w.heap.size w w10) := by
            rw [hw10]
            exact below_dr HB9.out q10
          clear hw10
          go_wp2_with fail
          go_ret
          exact ⟨rfl, HB10.out⟩

theorem finds_walk {w : World} (x : Int) {a0 : Option Addr} {L cl : Nat} {vp : Value} {ls : List (List Int)} {pr : List Int} (hLL : ls.length = L) (hl : RowsV w (.slice a0 L cl) ls) (hp : IntsV w vp pr) (hls : L * 24 ≤ 140737488351232) (hlb : ∀ c ∈ ls, c.length * 8 ≤ 140737488351232) (hpb : pr.length * 8 ≤ 140737488351232) :
    Calls Try.prog 4 #[.int .i64 x, .slice a0 L cl, vp] w fun e w' => e = .returned (.bool true) ∧ Below w.heap.size w w' := by
  have hlb2 : ∀ c ∈ ls, c.length ≤ 9223372036854775807 := fun c hc => by have := hlb c hc; omega
  by_cases hx : x < 0 ∨ 400 < x
  · exact finds_bad (q := 171) rfl hl (by omega) hlb (fun W _ => refcheck_many hx _ _ W) (fun W v hb hv => solve_bad rfl (check_many hx W))
  · obtain ⟨n, rfl⟩ : ∃ n : Nat, x = (n : Int) := ⟨x.toNat, by omega⟩
    have hn : n ≤ 400 := by omega
    have h12 : ∀ W, Below w.heap.size w W → Calls Try.prog 12 #[.int .i64 (n : Int), .slice a0 L cl, vp] W fun e w' => e = .returned (.int .i64 (chkN n ls pr)) ∧ w' = W := fun W hb => refcheck_c hn (hl.below hb) (hp.below hb) (by omega) hlb2 (by omega)
    by_cases hok : litsB n ls pr = true
    · have e : chkN n ls pr = 0 := by unfold chkN; rw [if_pos hok]
      rw [e] at h12
      by_cases hb : 10 < n ∨ 40 < L
      · exact finds_big (by omega) hb h12
      · exact finds_small (by omega) (by omega) hLL hl hp hlb hpb hok h12
    · have e : chkN n ls pr = 170 := by unfold chkN; rw [if_neg hok]
      rw [e] at h12
      refine finds_bad (q := 170) rfl hl (by omega) hlb h12 (fun W v hb hv => solve_bad rfl ?_)
      have := check_c hn hv (hp.below hb) (by omega) hlb2 (by omega)
      unfold CheckPost at this
      rw [if_neg hok] at this
      exact this
end Go.Proofs.Ytkeagjphddcjeaa
