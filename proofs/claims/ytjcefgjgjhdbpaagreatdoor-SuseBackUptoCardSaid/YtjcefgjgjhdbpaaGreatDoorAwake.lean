/-
  Packages of a text: a line outside of blocks. Helper text; the conditions are those typed.
  Packages of a text. Helper text; the conditions are those typed.
  Calls whose answers are fixed. Helper text; the conditions are those typed.
-/
import Derived.Test.YtjcefgjgjhdbpaaGreatDoorParB
namespace Go.Proofs.YtjcefgjgjhdbpaaGreatDoor
set_option linter.unusedVariables false
set_option linter.unusedSimpArgs false
open Go.RowKit Go.Maps

theorem OutO.pkgs {w : World} {L B M : Nat} {K : Nat → Prop} {out : List PkgT} {vo : Value} (h : OutO w L B M K out vo) (hn : out.length ≤ 1000) : PkgsV w (New L w) out vo := by
  obtain ⟨xs, hr, hx⟩ := h.row
  rcases hr.2 with ⟨e, h0⟩ | ⟨g, cap, cur, e, hg, hat, hcap, _, hsz, htake⟩
  · exact ⟨none, 0, by rw [e, h0], by omega, fun hne => absurd (List.length_eq_zero_iff.1 h0) hne⟩
  · refine ⟨_, cap, e, by omega, fun _ => ⟨g, 0, rfl, ⟨hg, _, _, hat⟩, fun i hi => ?_⟩⟩
    obtain ⟨v, vf, h1, h2⟩ := hx i hi
    refine ⟨v, vf, h1.keep (fun b hb => h.fresh b hb) (fun _ _ _ => rfl), fun r u hu => ?_⟩
    refine cell_of hat ?_
    have h5 := h2 r u hu
    have hlt := (List.getElem?_eq_some_iff.1 h5).1
    rw [hr.1] at hlt
    rw [← htake, List.getElem?_take_of_lt hlt] at h5
    rw [Nat.zero_add, ← Array.getElem?_toList]
    exact h5
theorem RdSt.has {w : World} {L B M : Nat} {st : SSt} {n : Nat} (h : RdSt w L B M st n) : w.cell? ⟨B, 13, none⟩ = some (.bool st.cur.isSome) := by
  obtain ⟨K, p, vo, v, vf, h1, _⟩ := h
  exact h1.box.cell (j := 13) rfl
theorem RdSt.len {w : World} {L B M : Nat} {st : SSt} {n : Nat} (h : RdSt w L B M st n) : st.out.length ≤ 200 := by
  obtain ⟨K, p, vo, v, vf, _, _, _, _, h1⟩ := h
  exact h1
theorem whole_len1 (st : SSt) : (wholeS st).1.length ≤ st.out.length + 1 := by
  unfold wholeS
  split
  · exact Nat.le_succ _
  · split
    · simp
    · exact Nat.le_succ _
theorem runN_nil (st : SSt) : runS none [] st = endS st := rfl
theorem runN_cons (s : Wd) (l : List Wd) (st : SSt) : runS none (s :: l) st = match stepN s st with
    | .err e => ([], e)
    | .go m' st' => runS m' l st' := rfl
theorem lit_yes {t l : Wd} (h : t = l) : ((mkB t).toList == l) = true := by
  rw [Lib.toList_data]
  show (t == l) = true
  rw [h]
  simp
theorem lit_no {t l : Wd} (h : t ≠ l) : ((mkB t).toList == l) = false := by
  rw [Lib.toList_data]
  show (t == l) = false
  simpa using h
theorem strip1_len (l : Wd) : (strip1 l).length ≤ l.length := by
  cases l with
  | nil => exact Nat.le_refl _
  | cons c l =>
    show (if c = 32 then l else c :: l).length ≤ _
    split
    · simp
    · exact Nat.le_refl _
set_option maxHeartbeats 8000000 in
set_option maxRecDepth 1000000 in
theorem pass0 (w0 : World) (R : List PkgT × Int) (B M : Nat) (B0 : Code) (hB1 : findLabel (scopeOf Tryz.f7.body) 0 = some (.seq .skip B0)) (k : Nat) (x : Act) (wr : World) (hx : AtL w0 R B M false k x wr) :
    B0.wp Tryz.prog (leap (fun a' w' => ∃ k', k' < k ∧ AtL w0 R B M false k' a' w') (fun a' w' => ∃ k', k' < k ∧ AtL w0 R B M true k' a' w') (bodyPost Tryz.prog Tryz.f7 (ParsedP w0 R))) x wr := by
  simp only [scopeOf, findLabel, Tryz.f7, Nat.reduceBEq, Bool.false_eq_true, ↓reduceIte, beq_self_eq_true, Option.some.injEq, Code.seq.injEq, true_and] at hB1
  subst hB1
  obtain ⟨hdef, hsz, s, t, E, h0, h4, h9, _, hk, hs, _, hB0, hid⟩ := hx
  obtain ⟨tm, d⟩ := x
  simp only at hdef hsz h0 h4 h9
  subst hdef
  obtain ⟨t', rfl⟩ := arr150 tm hsz
  have e0 : t' 0 = .string s := by simpa using h0
  have e4 : t' 4 = .pointer (some ⟨B, 0, none⟩) := by simpa using h4
  have e9 : t' 9 = .int .i64 E := by simpa using h9
  rw [e0, e4, e9]
  clear h0 h4 h9 e0 e4 e9 hsz
  obtain ⟨hb, hr⟩ := hid.out
  have HB := Lib.hid hb
  have HK := Lib.hid hk
  have HS := Lib.hid hs
  clear hid hb hk
  rw [if_neg (by decide)] at hr
  rcases hr with ⟨hE, hR⟩ | ⟨rfl, st, hst, hrun, _⟩
  · have q1 : (E == 0) = false := by simpa using hE
    have q2 : (E != 0) = true := by simpa using hE
    have HF : Hid (ParsedP w0 R (.returned (.tuple #[.slice none 0 0, .int .i64 E])) wr) := Lib.hid (by
      subst hR
      exact ⟨_, rfl, HB.out, pkgs_none _ _⟩)
    clear hE hR
    go_wp2_with fail
    dsimp only [leap, Exit.noGoto, Exit.inBlock, Exit.then]
    exact bodyPost_ret (v := .tuple #[.slice none 0 0, .int .i64 E]) (by simp [results, Tryz.results7, go_sem]) rfl HF.out
  · have HST := Lib.hid hst
    by_cases hz : s.size = 0
    · rw [linesB_e hz, runN_nil] at hrun
      have HW := Lib.hid (whole_c hst (by omega))
      have hwl := whole_len1 st
      have hol := hst.len
      unfold endS at hrun
      obtain rfl := empty_b hz
      clear hz hst
      generalize (wholeS st).1 = out at HW hrun hwl
      generalize (wholeS st).2 = Q at HW hrun
      by_cases hQ : Q = 0
      · subst hQ
        rw [if_neg (by simp)] at hrun
        have HF : Hid (∀ W vo K, Below w0.heap.size w0 W → OutO W w0.heap.size B M K out vo → ParsedP w0 R (.returned (.tuple #[vo, .int .i64 0])) W) := Lib.hid (by
          intro W vo K hb ho
          subst hrun
          exact ⟨vo, rfl, hb, ho.pkgs (by omega)⟩)
        clear hrun hwl hol
        go_wp2_with fail
        refine HW.out.mono ?_
        rintro e w2 ⟨rfl, hb2, hbx2⟩
        obtain ⟨vo, K, z0, z1, z2, z3, z4, z5, z6, z7, z8, z9, z10, z11, has, hbx, ho⟩ := hbx2 rfl
        obtain ⟨xs0, hr, _⟩ := ho.row
        obtain ⟨va, vc, rfl⟩ := ownsRow_slice hr
        have c0 := hbx.cell (j := 0) rfl
        have HF2 := Lib.hid (HF.out _ _ _ (HB.out.trans hb2) ho)
        clear hb2 hbx2 hbx ho hr HF
        go_wp2_with fail
        dsimp only [leap, Exit.noGoto, Exit.inBlock, Exit.then]
        exact bodyPost_ret (v := .tuple #[_, .int .i64 0]) (by simp [results, Tryz.results7, go_sem]) rfl HF2.out
      · rw [if_pos hQ] at hrun
        have q1 : (Q == 0) = false := by simpa using hQ
        have q2 : (Q != 0) = true := by simpa using hQ
        have HF : Hid (∀ W, Below w0.heap.size w0 W → ParsedP w0 R (.returned (.tuple #[.slice none 0 0, .int .i64 Q])) W) := Lib.hid (by
          intro W hb
          subst hrun
          exact ⟨_, rfl, hb, pkgs_none _ _⟩)
        clear hrun hQ hwl hol
        go_wp2_with fail
        refine HW.out.mono ?_
        rintro e w2 ⟨rfl, hb2, _⟩
        have HF2 := Lib.hid (HF.out _ (HB.out.trans hb2))
        clear hb2 HF
        go_wp2_with fail
        dsimp only [leap, Exit.noGoto, Exit.inBlock, Exit.then]
        exact bodyPost_ret (v := .tuple #[.slice none 0 0, .int .i64 Q]) (by simp [results, Tryz.results7, go_sem]) rfl HF2.out
    · rw [linesB_ne hz, runN_cons] at hrun
      have HCUT := Lib.hid (fun W => cut1_c s 10 (by have : 40000 ≤ maxLen := by decide
                                                     omega) W)
      have hls := line_size s
      have hrs := rest_size hz
      rw [lineOf_cut, restOf_cut] at HCUT
      have hne : (s.toList == ([] : List UInt8)) = false := by
        have := nil_ne (l := bs s) (fun e => hz (by rw [← bs_length, e]; rfl))
        rwa [mkB_bs] at this
      have hne3 : s.toList.isEmpty = false := by
        have := nil_ne3 (l := bs s) (fun e => hz (by rw [← bs_length, e]; rfl))
        rwa [mkB_bs] at this
      generalize lineOf (bs s) = ln at hrun HCUT hls
      generalize restOf (bs s) = rs at hrun HCUT hrs
      have HRUN := Lib.hid hrun
      have HST := Lib.hid hst
      have HLS := Lib.hid hls
      have HRS := Lib.hid hrs
      have HZ := Lib.hid hz
      have HLT : Hid ((mkB rs).size < k ∧ (mkB rs).size ≤ 40000) := Lib.hid (by have := HK.out; omega)
      clear hrun hst hls hrs hz
      have hm : 40000 ≤ maxLen := by decide
      have HM := Lib.hid hm
      clear hm
      have HTR := Lib.hid (fun W => trim_c (mkB ln) (by have := HLS.out; have := HS.out; have := HM.out; omega) W)
      rw [bs_mkB] at HTR
      by_cases ht0 : trimT ln = []
      · have HRD : Hid (∀ W, Below wr.heap.size wr W → Below w0.heap.size w0 W ∧ Reads w0 W B M R none (mkB rs) 0) := Lib.hid fun W hW => by
          have hrun := HRUN.out
          unfold stepN at hrun
          rw [if_pos (.inl ht0)] at hrun
          exact ⟨HB.out.trans (below_to hW HB.out.size), .inr ⟨rfl, st, (HST.out.below hW).more (by have := HRS.out; omega), hrun, fun h => absurd rfl h⟩⟩
        rw [ht0] at HTR
        have HTE : mkB [] = ⟨#[]⟩ := rfl
        rw [HTE] at HTR
        clear ht0 HTE
        go_wp2_with (first
          | (go_at_call 14; refine (HCUT.out _).mono ?_; rintro e w1 ⟨rfl, hb1⟩; have HB1 := Lib.hid hb1; clear hb1)
          | (go_at_call 15; refine (HTR.out _).mono ?_; rintro e w4 ⟨rfl, hb4⟩; have HB4 := Lib.hid hb4; clear hb4))
        go_step3
        go_wp2_with fail
        exact .inl ⟨rfl, _, HLT.out.1, rfl, rfl, mkB rs, ⟨#[]⟩, 0, rfl, rfl, rfl, fun h => absurd h (by decide), rfl, HLT.out.2, by decide, hB0, Lib.hid (HRD.out _ (below_tr HB1.out HB4.out))⟩
      · obtain ⟨c, l, hcl⟩ : ∃ c l, ln = c :: l := by
          cases ln with
          | nil => exact absurd rfl ht0
          | cons c l => exact ⟨c, l, rfl⟩
        have q2 := nil_ne ht0
        have q3 := nil_ne3 ht0
        have HT0 := Lib.hid ht0
        clear ht0
        have h1 : 1 ≤ (mkB ln).size := by
          show 1 ≤ ln.length
          rw [hcl]
          simp
        have HTAG := Lib.hid (fun W => tag_c (mkB ln) h1 (by have := HLS.out; have := HS.out; omega) W)
        rw [bs_mkB] at HTAG
        have hhead : ln.head? = some c := by rw [hcl]; rfl
        have hgc : (mkB ln)[0] = c := by
          subst hcl
          rfl
        have HHD := Lib.hid hhead
        have HCL := Lib.hid hcl
        clear hcl hhead
        have hle : (mkB ln).size = ln.length := rfl
        generalize mkB ln = LN at HCUT HLS HTR HTAG h1 hgc hle
        have HLE := Lib.hid hle
        clear hle
        have hi1 : (0 : Int) < (LN.size : Int) := by omega
        by_cases h35 : c = 35
        · have hB : ((c.toNat : Int) == 35) = true := by rw [h35]; rfl
          have HRD : Hid (∀ W, Below wr.heap.size wr W → Below w0.heap.size w0 W ∧ Reads w0 W B M R none (mkB rs) 0) := Lib.hid fun W hW => by
            have hrun := HRUN.out
            unfold stepN at hrun
            rw [if_pos (.inr (by rw [HHD.out, h35]))] at hrun
            exact ⟨HB.out.trans (below_to hW HB.out.size), .inr ⟨rfl, st, (HST.out.below hW).more (by have := HRS.out; omega), hrun, fun h => absurd rfl h⟩⟩
          clear h35
          go_wp2_with (first
            | (go_at_call 14; refine (HCUT.out _).mono ?_; rintro e w1 ⟨rfl, hb1⟩; have HB1 := Lib.hid hb1; clear hb1)
            | (go_at_call 15; refine (HTR.out _).mono ?_; rintro e w4 ⟨rfl, hb4⟩; have HB4 := Lib.hid hb4; clear hb4))
          go_step3
          go_wp2_with fail
          exact .inl ⟨rfl, _, HLT.out.1, rfl, rfl, mkB rs, ⟨#[]⟩, 0, rfl, rfl, rfl, fun h => absurd h (by decide), rfl, HLT.out.2, by decide, hB0, Lib.hid (HRD.out _ (below_tr HB1.out HB4.out))⟩
        · have hB : ((c.toNat : Int) == 35) = false := u8b h35
          have HN : Hid (¬ (trimT ln = [] ∨ ln.head? = some 35)) := Lib.hid (by
            rintro (h | h)
            · exact HT0.out h
            · rw [HHD.out] at h
              exact h35 (Option.some.inj h))
          have hrun := HRUN.out
          unfold stepN at hrun
          rw [if_neg HN.out] at hrun
          clear HRUN h35
          go_upto_region 17 with (first
            | (go_at_call 14; refine (HCUT.out _).mono ?_; rintro e w1 ⟨rfl, hb1⟩; have HB1 := Lib.hid hb1; clear hb1)
            | (go_at_call 15; refine (HTR.out _).mono ?_; rintro e w4 ⟨rfl, hb4⟩; have HB4 := Lib.hid hb4; clear hb4)
            | (go_at_call 16; refine (HTAG.out _).mono ?_; rintro e w3 ⟨⟨ta, tb, rfl, htab⟩, hb3⟩; have HB3 := Lib.hid hb3; clear hb3))
          have HBW : Hid (Below wr.heap.size wr w3) := Lib.hid (below_tr (below_tr HB1.out HB4.out) HB3.out)
          have HBC0 : Hid (Below w0.heap.size w0 w3) := Lib.hid (HB.out.trans (below_to HBW.out HB.out.size))
          have HST3 : Hid (RdSt w3 w0.heap.size B M st (40000 - s.size)) := Lib.hid (HST.out.below HBW.out)
          have c13 := HST3.out.has
          clear HB1 HB4 HB3 HCUT HST
          cases htg : tagOf ln with
          | none =>
            rw [htg] at hrun
            have HF : Hid (ParsedP w0 R (.returned (.tuple #[.slice none 0 0, .int .i64 130])) w3) := Lib.hid (by
              have hrun : ([], 130) = R := hrun
              subst hrun
              exact ⟨_, rfl, HBC0.out, pkgs_none _ _⟩)
            have q5 : (tagOf ln).isSome = false := by rw [htg]; rfl
            clear hrun htab htg
            go_wp2_with fail
            dsimp only [leap, Exit.noGoto, Exit.inBlock, Exit.then]
            exact bodyPost_ret (v := .tuple #[.slice none 0 0, .int .i64 130]) (by simp [results, Tryz.results7, go_sem]) rfl HF.out
          | some y =>
            obtain ⟨t2, r⟩ := y
            obtain ⟨rfl, rfl⟩ := htab _ htg
            rw [htg] at hrun
            simp only at hrun
            have q5 : (tagOf ln).isSome = true := by rw [htg]; rfl
            have hlen := tagOf_len htg
            have HLN : Hid (t2.length ≤ 40000 ∧ r.length ≤ 40000) := Lib.hid (by
              have h2 : ln.length ≤ 40000 := by
                have h3 : LN.size = ln.length := HLE.out
                have := HLS.out
                have := HS.out
                omega
              exact ⟨Nat.le_trans hlen.1 h2, Nat.le_trans hlen.2 h2⟩)
            clear htab htg hlen
            by_cases h61 : c = 61
            · skip
              rw [if_pos (by rw [HHD.out, h61])] at hrun
              have b61 : ((c.toNat : Int) == 61) = true := by rw [h61]; rfl
              unfold oneS at hrun
              by_cases hp : t2 = pkgW
              · rw [if_pos hp] at hrun
                have p1 : ((mkB t2).toList == ([80, 107, 103] : List UInt8)) = true := lit_yes hp
                have HSP := Lib.hid (fun W => strip_c (mkB r) W)
                rw [bs_mkB] at HSP
                have hsl : (mkB (strip1 r)).size ≤ 40000 := by
                  have h1 := strip1_len r
                  have h2 : (mkB (strip1 r)).size = (strip1 r).length := rfl
                  have := HLN.out
                  omega
                have HCT := Lib.hid (pack_c HST3.out (by omega) (mkB (strip1 r)) hsl)
                rw [bs_mkB] at HCT
                have HPE : Hid (∀ x, packS st (strip1 r) = .err x → x ≠ 0) := Lib.hid (fun x h => one_err (st := st) (t := pkgW) (v := r) (by unfold oneS; rw [if_pos rfl]; exact h))
                clear hp c13
                generalize packS st (strip1 r) = res at HCT hrun HPE
                cases res with
                | err xe =>
                  have hxe := HPE.out xe rfl
                  have HRD : Hid (∀ W, Reads w0 W B M R none (mkB rs) xe) := Lib.hid fun W => .inl ⟨hxe, hrun.symm⟩
                  clear hrun HPE
                  go_wp2_with (first
                    | (go_at_call 18; refine (HSP.out _).mono ?_; rintro e w6 ⟨rfl, hw6⟩; obtain rfl : w3 = w6 := hw6.symm)
                    | (go_at_call 17; refine (HCT.out).mono ?_; rintro e w5 ⟨hb5, rfl⟩; have HB5 := Lib.hid hb5; clear hb5))
                  go_step3
                  go_wp2_with fail
                  exact .inl ⟨rfl, _, HLT.out.1, rfl, rfl, mkB rs, ⟨#[]⟩, xe, rfl, rfl, rfl, fun h => absurd h (by decide), rfl, HLT.out.2, by decide, hB0, Lib.hid ⟨HBC0.out.trans HB5.out, HRD.out _⟩⟩
                | ok st' =>
                  have HRD : Hid (∀ W, RdSt W w0.heap.size B M st' 0 → Reads w0 W B M R none (mkB rs) 0) := Lib.hid fun W hW => .inr ⟨rfl, st', hW.more (by have := HRS.out; have := HS.out; omega), hrun, fun h => absurd rfl h⟩
                  clear hrun HPE
                  go_wp2_with (first
                    | (go_at_call 18; refine (HSP.out _).mono ?_; rintro e w6 ⟨rfl, hw6⟩; obtain rfl : w3 = w6 := hw6.symm)
                    | (go_at_call 17; refine (HCT.out).mono ?_; rintro e w5 ⟨hb5, rfl, hst5⟩; have HB5 := Lib.hid hb5; have HST5 := Lib.hid hst5; clear hb5 hst5))
                  go_step3
                  go_wp2_with fail
                  exact .inl ⟨rfl, _, HLT.out.1, rfl, rfl, mkB rs, ⟨#[]⟩, 0, rfl, rfl, rfl, fun h => absurd h (by decide), rfl, HLT.out.2, by decide, hB0, Lib.hid ⟨HBC0.out.trans HB5.out, HRD.out _ HST5.out⟩⟩
              · rw [if_neg hp] at hrun
                have p1 : ((mkB t2).toList == ([80, 107, 103] : List UInt8)) = false := lit_no hp
                cases hcur : st.cur with
                | none =>
                  rw [hcur] at hrun c13
                  simp only [Option.isSome_none] at hrun c13
                  by_cases hv : t2 = verW
                  · rw [if_pos hv] at hrun
                    have p2 : ((mkB t2).toList == ([86, 101, 114] : List UInt8)) = true := lit_yes hv
                    have HRD : Hid (Below w0.heap.size w0 w3 ∧ Reads w0 w3 B M R none (mkB rs) 0) := Lib.hid ⟨HBC0.out, .inr ⟨rfl, st, HST3.out.more (by have := HRS.out; omega), hrun, fun h => absurd rfl h⟩⟩
                    clear hrun hv hp hcur
                    go_wp2_with fail
                    go_step3
                    go_wp2_with fail
                    exact .inl ⟨rfl, _, HLT.out.1, rfl, rfl, mkB rs, ⟨#[]⟩, 0, rfl, rfl, rfl, fun h => absurd h (by decide), rfl, HLT.out.2, by decide, hB0, Lib.hid HRD.out⟩
                  · rw [if_neg hv] at hrun
                    have p2 : ((mkB t2).toList == ([86, 101, 114] : List UInt8)) = false := lit_no hv
                    have HF : Hid (ParsedP w0 R (.returned (.tuple #[.slice none 0 0, .int .i64 130])) w3) := Lib.hid (by
                      have hrun : ([], 130) = R := hrun
                      subst hrun
                      exact ⟨_, rfl, HBC0.out, pkgs_none _ _⟩)
                    clear hrun
                    clear hv hp hcur
                    go_wp2_with fail
                    dsimp only [leap, Exit.noGoto, Exit.inBlock, Exit.then]
                    exact bodyPost_ret (v := .tuple #[.slice none 0 0, .int .i64 130]) (by simp [results, Tryz.results7, go_sem]) rfl HF.out
                | some p0 =>
                  rw [hcur] at hrun c13
                  simp only [Option.isSome_some] at hrun c13
                  have HSP := Lib.hid (fun W => strip_c (mkB r) W)
                  rw [bs_mkB] at HSP
                  have hsl : (mkB (strip1 r)).size ≤ 40000 := by
                    have h1 := strip1_len r
                    have h2 : (mkB (strip1 r)).size = (strip1 r).length := rfl
                    have := HLN.out
                    omega
                  have HCT := Lib.hid (put_c HST3.out (by rw [hcur]; rfl) (by omega) (mkB t2) (mkB (strip1 r)) HLN.out.1 hsl)
                  rw [bs_mkB, bs_mkB] at HCT
                  have HPE : Hid (∀ x, putS st t2 (strip1 r) = .err x → x ≠ 0) := Lib.hid (fun x h => by rw [put_err h]; decide)
                  clear hp hcur
                  generalize putS st t2 (strip1 r) = res at HCT hrun HPE
                  cases res with
                  | err xe =>
                    have hxe := HPE.out xe rfl
                    have HRD : Hid (∀ W, Reads w0 W B M R none (mkB rs) xe) := Lib.hid fun W => .inl ⟨hxe, hrun.symm⟩
                    clear hrun HPE
                    go_wp2_with (first
                      | (go_at_call 18; refine (HSP.out _).mono ?_; rintro e w6 ⟨rfl, hw6⟩; obtain rfl : w3 = w6 := hw6.symm)
                      | (go_at_call 19; refine (HCT.out).mono ?_; rintro e w5 ⟨hb5, rfl⟩; have HB5 := Lib.hid hb5; clear hb5))
                    go_step3
                    go_wp2_with fail
                    exact .inl ⟨rfl, _, HLT.out.1, rfl, rfl, mkB rs, ⟨#[]⟩, xe, rfl, rfl, rfl, fun h => absurd h (by decide), rfl, HLT.out.2, by decide, hB0, Lib.hid ⟨HBC0.out.trans HB5.out, HRD.out _⟩⟩
                  | ok st' =>
                    have HRD : Hid (∀ W, RdSt W w0.heap.size B M st' (40000 - s.size + 1) → Reads w0 W B M R none (mkB rs) 0) := Lib.hid fun W hW => .inr ⟨rfl, st', hW.more (by have := HRS.out; have := HS.out; omega), hrun, fun h => absurd rfl h⟩
                    clear hrun HPE
                    go_wp2_with (first
                      | (go_at_call 18; refine (HSP.out _).mono ?_; rintro e w6 ⟨rfl, hw6⟩; obtain rfl : w3 = w6 := hw6.symm)
                      | (go_at_call 19; refine (HCT.out).mono ?_; rintro e w5 ⟨hb5, rfl, hst5⟩; have HB5 := Lib.hid hb5; have HST5 := Lib.hid hst5; clear hb5 hst5))
                    go_step3
                    go_wp2_with fail
                    exact .inl ⟨rfl, _, HLT.out.1, rfl, rfl, mkB rs, ⟨#[]⟩, 0, rfl, rfl, rfl, fun h => absurd h (by decide), rfl, HLT.out.2, by decide, hB0, Lib.hid ⟨HBC0.out.trans HB5.out, HRD.out _ HST5.out⟩⟩
            · skip
              rw [if_neg (by rw [HHD.out]; exact fun h => h61 (Option.some.inj h))] at hrun
              have b61 : ((c.toNat : Int) == 61) = false := u8b h61
              by_cases h43 : c = 43
              · have b43 : ((c.toNat : Int) == 43) = true := by rw [h43]; rfl
                cases hcur : st.cur with
                | none =>
                  rw [if_neg (by rw [hcur]; simp)] at hrun
                  rw [hcur] at c13
                  simp only [Option.isSome_none] at c13
                  have HF : Hid (∀ W, Below w3.heap.size w3 W → ParsedP w0 R (.returned (.tuple #[.slice none 0 0, .int .i64 130])) W) := Lib.hid (fun W hW => by
                    have hrun : ([], 130) = R := hrun
                    subst hrun
                    exact ⟨_, rfl, HBC0.out.trans (below_to hW HBC0.out.size), pkgs_none _ _⟩)
                  clear hrun
                  clear hcur h43
                  go_wp2_with fail
                  dsimp only [leap, Exit.noGoto, Exit.inBlock, Exit.then]
                  exact bodyPost_ret (v := .tuple #[.slice none 0 0, .int .i64 130]) (by simp [results, Tryz.results7, go_sem]) rfl (HF.out _ (Below.refl _ _))
                | some p0 =>
                  rw [hcur] at c13
                  simp only [Option.isSome_some] at c13
                  have HTRR := Lib.hid (trim_c (mkB r) (by
                    have h2 : (mkB r).size = r.length := rfl
                    have := HLN.out
                    have := HM.out
                    omega) w3)
                  rw [bs_mkB] at HTRR
                  by_cases htr : trimT r = []
                  · rw [if_pos ⟨by rw [HHD.out, h43], htr, by rw [hcur]; rfl⟩] at hrun
                    have HSC : Hid (st.cur.isSome = true) := Lib.hid (by rw [hcur]; rfl)
                    have HRD : Hid (∀ W, Below w3.heap.size w3 W → Below w0.heap.size w0 W ∧ Reads w0 W B M R (some t2) (mkB rs) 0) := Lib.hid fun W hW =>
                      ⟨HBC0.out.trans (below_to hW HBC0.out.size), .inr ⟨rfl, st, (HST3.out.below hW).more (by have := HRS.out; omega), hrun, fun _ => HSC.out⟩⟩
                    rw [htr] at HTRR
                    have HTE : mkB [] = ⟨#[]⟩ := rfl
                    rw [HTE] at HTRR
                    clear hrun hcur h43 htr HTE
                    go_wp2_with (go_at_call 15; refine HTRR.out.mono ?_; rintro e w6 ⟨rfl, hb6⟩; have HB6 := Lib.hid hb6; clear hb6)
                    go_step3
                    go_wp2_with fail
                    exact .inr ⟨rfl, _, HLT.out.1, rfl, rfl, mkB rs, mkB t2, 0, rfl, rfl, rfl, fun _ => rfl, rfl, HLT.out.2, HLN.out.1, hB0, Lib.hid (HRD.out _ HB6.out)⟩
                  · rw [if_neg (fun h => htr h.2.1)] at hrun
                    have q6 := nil_ne htr
                    have q7 := nil_ne3 htr
                    have HF : Hid (∀ W, Below w3.heap.size w3 W → ParsedP w0 R (.returned (.tuple #[.slice none 0 0, .int .i64 130])) W) := Lib.hid (fun W hW => by
                      have hrun : ([], 130) = R := hrun
                      subst hrun
                      exact ⟨_, rfl, HBC0.out.trans (below_to hW HBC0.out.size), pkgs_none _ _⟩)
                    clear hrun
                    clear hcur h43 htr
                    go_wp2_with (go_at_call 15; refine HTRR.out.mono ?_; rintro e w6 ⟨rfl, hb6⟩; have HB6 := Lib.hid hb6; clear hb6)
                    dsimp only [leap, Exit.noGoto, Exit.inBlock, Exit.then]
                    exact bodyPost_ret (v := .tuple #[.slice none 0 0, .int .i64 130]) (by simp [results, Tryz.results7, go_sem]) rfl (HF.out _ HB6.out)
              · have b43 : ((c.toNat : Int) == 43) = false := u8b h43
                rw [if_neg (fun h => by rw [HHD.out] at h; exact h43 (Option.some.inj h.1))] at hrun
                have HF : Hid (∀ W, Below w3.heap.size w3 W → ParsedP w0 R (.returned (.tuple #[.slice none 0 0, .int .i64 130])) W) := Lib.hid (fun W hW => by
                  have hrun : ([], 130) = R := hrun
                  subst hrun
                  exact ⟨_, rfl, HBC0.out.trans (below_to hW HBC0.out.size), pkgs_none _ _⟩)
                clear hrun
                clear h43
                go_wp2_with fail
                dsimp only [leap, Exit.noGoto, Exit.inBlock, Exit.then]
                exact bodyPost_ret (v := .tuple #[.slice none 0 0, .int .i64 130]) (by simp [results, Tryz.results7, go_sem]) rfl (HF.out _ (Below.refl _ _))
end Go.Proofs.YtjcefgjgjhdbpaaGreatDoor
namespace Go.Proofs.YtjcefgjgjhdbpaaGreatDoor
set_option linter.unusedVariables false
set_option linter.unusedSimpArgs false
open Go.RowKit Go.Maps

def noSP : SP := ⟨⟨#[]⟩, ⟨#[]⟩, ⟨#[]⟩, ⟨#[]⟩, fun _ => [], []⟩
/-- The reader, made. -/
theorem rd_start {w w1 w2 : World} {M B : Nat} (hM : w.heap.size = M) (hb : Below w.heap.size w w1) (F : Value → Option Value) (hm : MapAt Tryz.prog 9 w1 M 7 F) (hF : ∀ t, F (.string t) = tagFn t) (hB : w1.heap.size = B) (e : w2 = w1.alloc (.cells #[.slice none 0 0, .string ⟨#[]⟩, .string ⟨#[]⟩, .string ⟨#[]⟩, .string ⟨#[]⟩, .slice none 0 0, .slice none 0 0, .slice none 0 0, .slice none 0 0, .slice none 0 0, .slice none 0 0, .slice none 0 0, .slice none 0 0, .bool false, .map (some M)] 41)) :
    Below w.heap.size w w2 ∧ RdSt w2 w.heap.size B M ⟨[], none⟩ 0 := by
  have hlt := hm.lt
  have hbx : BoxN w2 B [.slice none 0 0, .string ⟨#[]⟩, .string ⟨#[]⟩, .string ⟨#[]⟩, .string ⟨#[]⟩, .slice none 0 0, .slice none 0 0, .slice none 0 0, .slice none 0 0, .slice none 0 0, .slice none 0 0, .slice none 0 0, .slice none 0 0, .bool false, .map (some M)] 41 := by
    rw [e, ← hB]
    exact boxN_alloc _ _ _
  have hb2 : Below w1.heap.size w1 w2 := by rw [e]; exact below1 _ _
  have hs := hb.size
  have h0 : (⟨#[]⟩ : ByteArray).size ≤ maxLen := by decide
  refine ⟨below_tr hb hb2, fun _ => False, noSP, .slice none 0 0, fun _ => .slice none 0 0, .slice none 0 0, ⟨hbx, ⟨by omega, by omega, ⟨F, hm.block (hb2.block M hlt), hF⟩, ⟨[], World.ownsRow_nil _ _ _ _, fun j hj => absurd hj (Nat.not_lt_zero _)⟩, fun b hb => hb.elim, by omega, by simp [Value.ownBlock], by simp [Value.ownBlock], id, id, fun b hb => hb.elim⟩, CurO.empty noSP h0 h0 h0 h0 (fun _ => rfl) rfl⟩, fun q hq => (by cases hq), fun i => Nat.le_refl _, Nat.le_refl _, Nat.zero_le _⟩
set_option maxHeartbeats 8000000 in
set_option maxRecDepth 1000000 in
/-- suse.Parse. -/
theorem sparse_c (s : ByteArray) (hs : s.size ≤ maxLen) (w : World) : Calls Tryz.prog 7 #[.string s] w (ParsedP w (suseParse s)) := by
  unfold suseParse
  by_cases hz : 40000 < s.size
  · rw [if_pos hz]
    have g1 : (40000 : Int) < (s.size : Int) := by omega
    clear hz
    go_enter Tryz.func7, Tryz.ntmps7
    go_wp2_with fail
    go_step3
    go_wp2_with fail
    dsimp only [leap, Exit.noGoto, Exit.inBlock, Exit.then]
    exact bodyPost_ret (v := .tuple #[.slice none 0 0, .int .i64 132]) (by simp [results, Tryz.results7, go_sem]) rfl ⟨_, rfl, Below.refl _ _, pkgs_none _ _⟩
  · rw [if_neg hz]
    have g1 : ¬ (40000 : Int) < (s.size : Int) := by omega
    obtain ⟨R, hR⟩ : ∃ R, runS none (linesB (bs s)) ⟨[], none⟩ = R := ⟨_, rfl⟩
    rw [hR]
    have HR := Lib.hid hR
    have HZ := Lib.hid hz
    clear hz hR
    have HMAP := Lib.hid (fun W => tagMap_c W)
    go_enter Tryz.func7, Tryz.ntmps7
    go_wp2_with fail
    refine wp_scope_two rfl rfl (fun k x wr => ∃ B M, AtL w R B M false k x wr) (fun k x wr => ∃ B M, AtL w R B M true k x wr) ?p0 ?p1 ?first
    case p0 =>
      rintro k a w1 ⟨B, M, h⟩
      exact Code.wp_mono (fun e a' w' h => leap_mono (fun _ _ ⟨k', h1, h2⟩ => ⟨k', h1, B, M, h2⟩) (fun _ _ ⟨k', h1, h2⟩ => ⟨k', h1, B, M, h2⟩) h) (pass0 w R B M _ rfl k a w1 h)
    case p1 =>
      rintro k a w1 ⟨B, M, h⟩
      exact Code.wp_mono (fun e a' w' h => leap_mono (fun _ _ ⟨k', h1, h2⟩ => ⟨k', h1, B, M, h2⟩) (fun _ _ ⟨k', h1, h2⟩ => ⟨k', h1, B, M, h2⟩) h) (pass1 w R B M _ rfl k a w1 h)
    case first =>
      intro HMORE0
      have HMORE := Lib.hid HMORE0
      clear HMORE0
      go_wp2_with (go_at_call 12; refine (HMAP.out _).mono ?_; rintro e w1 ⟨rfl, hb1, hF⟩; have HB1 := Lib.hid hb1; have HF := Lib.hid hF; clear hb1 hF)
      obtain ⟨F, hm, hF⟩ := HF.out
      obtain ⟨w2, e2⟩ : ∃ w2, w1.alloc (.cells #[.slice none 0 0, .string ⟨#[]⟩, .string ⟨#[]⟩, .string ⟨#[]⟩, .string ⟨#[]⟩, .slice none 0 0, .slice none 0 0, .slice none 0 0, .slice none 0 0, .slice none 0 0, .slice none 0 0, .slice none 0 0, .slice none 0 0, .bool false, .map (some w.heap.size)] 41) = w2 := ⟨_, rfl⟩
      have HST := Lib.hid (rd_start rfl HB1.out F hm hF rfl e2.symm)
      have HLB : Hid (w.heap.size ≤ w1.heap.size) := Lib.hid HB1.out.size
      rw [e2]
      clear hm hF e2
      go_step3
      go_step
      go_step
      refine HMORE.out s.size _ _ ⟨w1.heap.size, w.heap.size, rfl, rfl, s, ⟨#[]⟩, 0, rfl, rfl, rfl, fun h => absurd h (by decide), rfl, by have := HZ.out; omega, by decide, HLB.out, Lib.hid ⟨HST.out.1, .inr ⟨rfl, _, HST.out.2.more (Nat.zero_le _), HR.out, fun h => absurd rfl h⟩⟩⟩
end Go.Proofs.YtjcefgjgjhdbpaaGreatDoor
namespace Go.Proofs.YtjcefgjgjhdbpaaGreatDoor
set_option linter.unusedVariables false
set_option linter.unusedSimpArgs false
open Go.RowKit Go.Maps

def lit1 : ByteArray := ⟨#[61, 80, 107, 103, 58, 32, 97, 32, 49, 32, 50, 32, 110, 111, 97, 114, 99, 104, 10, 61, 82, 101, 113, 58, 32, 98, 32, 62, 61, 32, 51, 10, 43, 80, 114, 118, 58, 10, 120, 10, 121, 32, 61, 32, 49, 10, 45, 80, 114, 118, 58, 10]⟩
theorem lit1_ok : ((suseParse lit1).2, (suseParse lit1).1.map fun p => (bs p.evr, p.n 0, p.n 1)) = (0, [([49, 45, 50], 2, 1)]) := by kernel_rfl
theorem lit2_ok : ((suseParse ⟨#[120, 10]⟩).2, (suseParse ⟨#[120, 10]⟩).1.length) = (130, 0) := by kernel_rfl
theorem lit1_is : ∃ p, suseParse lit1 = ([p], 0) ∧ p.evr = ⟨#[49, 45, 50]⟩ ∧ p.n 0 = 2 ∧ p.n 1 = 1 := by
  have h := lit1_ok
  obtain ⟨l, e⟩ : ∃ x, suseParse lit1 = x := ⟨_, rfl⟩
  rw [e] at h ⊢
  obtain ⟨ps, q⟩ := l
  injection h with h1 h2
  have h1 : q = 0 := h1
  subst h1
  obtain ⟨p, rfl⟩ : ∃ p, ps = [p] := by
    have h3 := congrArg List.length h2
    rw [List.length_map] at h3
    exact List.length_eq_one_iff.1 h3
  · simp only [List.map_cons, List.map_nil, List.cons.injEq, Prod.mk.injEq, and_true] at h2
    refine ⟨p, rfl, ?_, h2.2.1, h2.2.2⟩
    rw [← mkB_bs p.evr, h2.1]
    rfl
theorem lit2_is : suseParse ⟨#[120, 10]⟩ = ([], 130) := by
  have h := lit2_ok
  obtain ⟨l, e⟩ : ∃ x, suseParse ⟨#[120, 10]⟩ = x := ⟨_, rfl⟩
  rw [e] at h ⊢
  obtain ⟨ps, q⟩ := l
  injection h with h1 h2
  have h1 : q = 130 := h1
  have h2 : ps = [] := List.length_eq_zero_iff.1 h2
  rw [h1, h2]
set_option maxHeartbeats 4000000 in
set_option maxRecDepth 1000000 in
theorem awake_c (w : World) : Calls Tryz.prog 6 #[] w fun e w' => e = .returned (.bool true) ∧ Below w.heap.size w w' := by
  obtain ⟨p, hp, he, hn0, hn1⟩ := lit1_is
  have HC1 := Lib.hid (sparse_c lit1 (by decide) w)
  rw [hp] at HC1
  have HC2 := Lib.hid (fun W => sparse_c ⟨#[120, 10]⟩ (by decide) W)
  rw [lit2_is] at HC2
  clear hp
  go_enter Tryz.func6, Tryz.ntmps6
  go_wp2_with fail
  refine HC1.out.mono ?_
  rintro e w1 ⟨vo, rfl, hb1, a, c, rfl, _, hx⟩
  obtain ⟨b, off, rfl, _, hx⟩ := hx (by simp)
  obtain ⟨v, vf, hv, hcs⟩ := hx 0 (by simp)
  obtain ⟨xa, xc, rfl⟩ := hv.slices
  have hb : b < w1.heap.size := World.block_lt_of_cell? w1 _ (hcs 0 _ rfl)
  have HX : Hid (∀ W, Below w1.heap.size w1 W → W.cell? ⟨b, off + 1, none⟩ = some (.string ⟨#[49, 45, 50]⟩) ∧ W.cell? ⟨b, off + 4, none⟩ = some (.slice (xa 0) 2 (xc 0)) ∧ W.cell? ⟨b, off + 5, none⟩ = some (.slice (xa 1) 1 (xc 1))) := Lib.hid fun W hW => by
    have k1 := hcs.keep (hW.block b hb)
    rw [Nat.zero_mul, Nat.add_zero] at k1
    refine ⟨?_, ?_, ?_⟩
    · rw [← he]
      exact k1 1 _ rfl
    · rw [← hn0]
      exact k1 4 _ rfl
    · rw [← hn1]
      exact k1 5 _ rfl
  have HB1 := Lib.hid hb1
  clear hb1 hx hcs hv hb he hn0 hn1 HC1
  go_wp2_with fail
  refine (HC2.out _).mono ?_
  rintro e w2 ⟨vo, rfl, hb2, a2, c2, rfl, _, _⟩
  obtain ⟨x1, x4, x5⟩ := HX.out w2 hb2
  have HB2 := Lib.hid hb2
  clear hb2 HX HC2
  go_wp2_with fail
  go_ret
  exact ⟨by simp, below_tr HB1.out HB2.out⟩
end Go.Proofs.YtjcefgjgjhdbpaaGreatDoor
