/-
  The document's reader: a block of lines. Helper text (printed by gen_rrdG.py); the conditions are those typed.
  The document's reader: a text of tags. Helper text (printed by gen_rrdH.py); the conditions are those typed.
-/
import Derived.Test.YtjcefgjgjhdbpaaGreatDoorRRdF
namespace Go.Proofs.YtjcefgjgjhdbpaaGreatDoor
set_option linter.unusedVariables false
set_option linter.unusedSimpArgs false
open Go.RowKit Go.Maps
variable {X : Obj}

/-- What a block leaves: an error, or the lines behind it. -/
inductive BRes where
  | err (e : Int)
  | ok (l : List Wd) (st : SSt)
def blkS (t : Wd) : List Wd → SSt → BRes
  | [], _ => .err 130
  | s :: l, st => match stepB t s st with
    | .err e => .err e
    | .go none st' => .ok l st'
    | .go (some _) st' => blkS t l st'
theorem stepB_some {t s : Wd} {st st' : SSt} {u : Wd} (h : stepB t s st = .go (some u) st') : u = t := by
  unfold stepB at h
  split at h
  · cases h
  · split at h
    · injection h with h _
      exact (Option.some.inj h).symm
    · cases hp : putS st t s with
      | err x => rw [hp] at h; cases h
      | ok st2 =>
        rw [hp] at h
        injection h with h _
        exact (Option.some.inj h).symm
theorem blk_run (t : Wd) : ∀ (l : List Wd) (st : SSt), runS (some t) l st = match blkS t l st with
    | .err e => ([], e)
    | .ok l' st' => runS none l' st'
  | [], st => rfl
  | s :: l, st => by
    rw [runB_cons, blkS]
    cases h : stepB t s st with
    | err e => rfl
    | go m st' =>
      cases m with
      | none => rfl
      | some u =>
        have := stepB_some h
        subst this
        exact blk_run u l st'
/-- What block answers, called at line i. -/
def BlockP (X : Obj) (w : World) (L B M : Nat) (ls : List Wd) (i n : Nat) (r : BRes) (e : Ending) (w' : World) : Prop :=
  Below L w w' ∧ match r with
  | .err x => e = .returned (.tuple #[.int .i64 0, .int .i64 x]) ∧ x ≠ 0
  | .ok l st => ∃ j : Nat, e = .returned (.tuple #[.int .i64 (j : Int), .int .i64 0]) ∧ ls.drop j = l ∧ i < j ∧ j ≤ ls.length ∧ RdRt X w' L B M st (n + (j - i)) ∧ st.cur.isSome = true
theorem head_at {s : ByteArray} (h : 0 < s.size) : (bs s).head? = some (s[0]'h) := by
  have h3 : 0 < (bs s).length := by rw [bs_length]; exact h
  rw [List.head?_eq_getElem?, List.getElem?_eq_getElem h3]
  rfl
theorem putS_cur {st st' : SSt} {t v : Wd} (h : putS st t v = .ok st') (hc : st.cur.isSome = true) : st'.cur.isSome = true := by
  obtain ⟨_, _, h3⟩ := put_ok h
  cases e : st.cur with
  | none => rw [e] at hc; cases hc
  | some p =>
    obtain ⟨q, _, h4⟩ := h3 p e
    rw [h4]
    rfl
theorem put_pkg {st : SSt} {v : Wd} (hc : st.cur.isSome = true) : putS st pkgW v = .ok st := by
  obtain ⟨out, cur⟩ := st
  cases cur with
  | none => cases hc
  | some p => rfl
/-- Lines as they lie in memory. -/
def LnsX (X : Obj) (M : Nat) (ls : List Wd) : Prop := ∀ W : World, W.heap[M]? = some X → ∀ i (h : i < ls.length), W.cell? ⟨M, i, none⟩ = some (.string (mkB ls[i]))
set_option maxHeartbeats 8000000 in
set_option maxRecDepth 1000000 in
/-- The document's block. -/
theorem rblock_c {w : World} {L B M : Nat} {st : SSt} {n : Nat} (h : RdRt X w L B M st n) (ls : List Wd) (hLN : LnsX X M ls) (cap : Nat) (hll : ls.length ≤ 40000) (hsm : ∀ x ∈ ls, x.length ≤ 40000) (t : ByteArray) (ht : t.size ≤ 40000) (i : Nat) (hi : i ≤ ls.length) (hn : n ≤ 500000) :
    Calls Tryz.prog 25 #[.pointer (some ⟨B, 0, none⟩), .slice (some ⟨M, 0, none⟩) ls.length cap, .int .i64 (i : Int), .string t] w (BlockP X w L B M ls i n (if st.cur.isSome = true then blkS (bs t) (ls.drop i) st else .err 130)) := by
  have c13 := h.has
  have hBl := h.lt
  have hlw : L ≤ w.heap.size := by omega
  have HLW := Lib.hid hlw
  cases hcur : st.cur.isSome with
  | false =>
    rw [hcur] at c13
    clear h hcur
    go_enter Tryz.func25, Tryz.ntmps25
    go_wp2_with fail
    refine bodyPost_ret (v := .tuple #[.int .i64 0, .int .i64 130]) (by simp [results, Tryz.results25, go_sem]) rfl ?_
    exact ⟨Below.refl _ _, rfl, by decide⟩
  | true =>
    rw [hcur] at c13
    rw [if_pos rfl]
    obtain ⟨RES, hRES⟩ : ∃ r, blkS (bs t) (ls.drop i) st = r := ⟨_, rfl⟩
    rw [hRES]
    have HRES := Lib.hid hRES
    have HST := Lib.hid h
    have HC := Lib.hid hcur
    have HLN := Lib.hid hLN
    have HSM := Lib.hid hsm
    have HMX : Hid (40000 ≤ maxLen) := Lib.hid (by decide)
    have HTY : Hid (mkB (bs t) = t) := Lib.hid (mkB_bs t)
    obtain ⟨tw, htw⟩ : ∃ x, bs t = x := ⟨_, rfl⟩
    rw [htw] at HRES HTY
    have HTW := Lib.hid htw
    clear h hcur hLN hsm hRES htw hBl hlw
    obtain ⟨N, hN⟩ : ∃ N, ls.length = N := ⟨_, rfl⟩
    have HNN := Lib.hid hN
    rw [hN] at hll hi
    rw [hN]
    clear hN
    go_enter Tryz.func25, Tryz.ntmps25
    go_wp2_with fail
    go_loopg [2] (N - i) (fun gk v2 wx => ∃ (j : Nat) (sj : SSt), v2 = .int .i64 (j : Int) ∧ i ≤ j ∧ j ≤ N ∧ N ≤ j + gk ∧ Hid (Below L w wx ∧ RdRt X wx L B M sj (n + (j - i)) ∧ sj.cur.isSome = true ∧ blkS tw (ls.drop j) sj = RES))
    case atStart => exact ⟨i, st, rfl, Nat.le_refl _, hi, by omega, Below.refl _ _, HST.out.more (by omega), HC.out, HRES.out⟩
    case round =>
      clear HST HC HRES c13
      obtain ⟨j, sj, rfl, hij, hjN, hjk, HI⟩ := hrel
      obtain ⟨wa, rfl⟩ : ∃ x : World, x = wr := ⟨_, rfl⟩
      obtain ⟨gJ, rfl⟩ : ∃ x : Nat, x = gk := ⟨_, rfl⟩
      by_cases hlt : j < N
      · have hj1 : (j : Int) < (N : Int) := by omega
        have q3 := wrap1 (n := j) (by omega)
        have hjl : j < ls.length := by rw [HNN.out]; exact hlt
        have hcell := HLN.out wa HI.out.2.1.cont j hjl
        have hdr := List.drop_eq_getElem_cons hjl
        have hsz : ls[j].length ≤ 40000 := HSM.out _ (List.getElem_mem hjl)
        obtain ⟨ln, hln⟩ : ∃ x, ls[j] = x := ⟨_, rfl⟩
        rw [hln] at hcell hdr hsz
        have HBK : Hid ((match stepB tw ln sj with
          | .err e => BRes.err e
          | .go none st' => .ok (ls.drop (j + 1)) st'
          | .go (some _) st' => blkS tw (ls.drop (j + 1)) st') = RES) := Lib.hid (by
          have h1 := HI.out.2.2.2
          rw [hdr, blkS] at h1
          exact h1)
        obtain ⟨s, hs⟩ : ∃ s, mkB ln = s := ⟨_, rfl⟩
        have hbs : bs s = ln := by rw [← hs]; rfl
        have hss : s.size ≤ 40000 := by rw [← bs_length, hbs]; exact hsz
        rw [hs] at hcell
        have HBS := Lib.hid hbs
        have HSS := Lib.hid hss
        clear hln hdr hs hbs hsz
        obtain ⟨hb0, hbE⟩ : ∃ f, (ln.head? == some 45) = f := ⟨_, rfl⟩
        have HBE := Lib.hid hbE
        clear hbE
        have hways : (¬ 0 < s.size ∧ hb0 = false) ∨ ∃ h0 : 0 < s.size, ((s[0].toNat : Int) == 45) = hb0 := by
          rw [← HBE.out, ← HBS.out]
          by_cases h0 : 0 < s.size
          · refine .inr ⟨h0, ?_⟩
            rw [head_at h0]
            by_cases hc : (s[0]'h0) = 45
            · rw [hc]; rfl
            · have e1 : ((s[0].toNat : Int) == 45) = false := u8b hc
              rw [e1]
              have : (some (s[0]'h0) == some (45 : UInt8)) = false := by simpa using hc
              exact this.symm
          · refine .inl ⟨h0, ?_⟩
            rw [bs_zero0 h0]
            rfl
        go_upto_region 6 with fail
        go_cut [37] from 30 to 37 (fun v37 wx => v37 = .bool hb0 ∧ wx = wa)
        case first =>
          rcases hways with ⟨h0, rfl⟩ | ⟨h0, hq⟩
          · have g0 : ¬ (0 : Int) < (s.size : Int) := by omega
            go_wp2_with fail
            go_meet
            case rel => exact ⟨rfl, rfl⟩
          · have g0 : (0 : Int) < (s.size : Int) := by omega
            go_wp2_with fail
            go_meet
            case rel => exact ⟨by first | rfl | rw [← hq], rfl⟩
        case rest =>
          obtain ⟨rfl, hwv⟩ := hcut
          obtain ⟨wv, rfl⟩ : ∃ x : World, x = wc := ⟨_, rfl⟩
          subst hwv
          clear hways hcell
          go_upto_if 37 with fail
          go_cut [11, 12, 13] from 38 to 54 (fun _ _ _ wx => Hid (Below wv.heap.size wv wx ∧ closesB ln tw = false))
          case first =>
            cases hb0 with
            | true =>
              have hh : ln.head? = some 45 := by simpa using HBE.out
              have h1 : 1 ≤ s.size := by
                rw [← bs_length, HBS.out]
                cases ln with
                | nil => cases hh
                | cons c l => simp
              have HTAG := Lib.hid (rtag_c s (by have := HSS.out; omega) h1 wv)
              rw [HBS.out] at HTAG
              have HH := Lib.hid hh
              clear hh h1
              cases ht2 : tagOf ln with
              | none =>
                have HCL : Hid (closesB ln tw = false) := Lib.hid (by
                  unfold closesB
                  rw [HH.out, ht2]
                  rfl)
                rw [ht2] at HTAG
                clear ht2
                go_wp2_with (go_at_call 23; refine HTAG.out.mono ?_; rintro e w3 ⟨hb3, a, b, rfl, _, _⟩; have HB3 := Lib.hid hb3; clear hb3)
                go_meet
                case rel => exact Lib.hid ⟨HB3.out, HCL.out⟩
              | some y =>
                obtain ⟨nw, b⟩ := y
                rw [ht2] at HTAG
                by_cases hnt : nw = tw
                · subst hnt
                  have q1 : ((mkB nw).toList == t.toList) = true := by rw [HTY.out]; simp
                  have HTRB := Lib.hid (fun W => rtrim_c (mkB b) (by
                    have h1 : b.length ≤ ln.length := (tagOf_len ht2).2
                    have h2 : (mkB b).size = b.length := rfl
                    have h3 : s.size = ln.length := by rw [← bs_length, HBS.out]
                    have := HSS.out
                    have := HMX.out
                    omega) W)
                  rw [bs_mkB] at HTRB
                  by_cases hb0 : trimT b = []
                  · have HCL : Hid (closesB ln nw = true) := Lib.hid (by
                      unfold closesB
                      rw [HH.out, ht2]
                      show (nw == nw && trimT b == []) = true
                      rw [hb0]
                      simp)
                    have HRO : Hid (BRes.ok (ls.drop (j + 1)) sj = RES) := Lib.hid (by
                      have h1 := HBK.out
                      unfold stepB at h1
                      rw [if_pos HCL.out] at h1
                      exact h1)
                    rw [hb0] at HTRB
                    have HTE : mkB [] = ⟨#[]⟩ := rfl
                    rw [HTE] at HTRB
                    clear ht2 hb0 HTE
                    go_wp2_with (first
                      | (go_at_call 23; refine HTAG.out.mono ?_; rintro e w3 ⟨hb3, rfl⟩; have HB3 := Lib.hid hb3; clear hb3)
                      | (go_at_call 22; refine (HTRB.out _).mono ?_; rintro e w4 ⟨rfl, hb4⟩; have HB4 := Lib.hid hb4; clear hb4))
                    refine bodyPost_ret (v := .tuple #[.int .i64 ((j + 1 : Nat) : Int), .int .i64 0]) (by simp [results, Tryz.results25, go_sem]) rfl ?_
                    rw [← HRO.out]
                    obtain rfl := HB4.out
                    refine ⟨HI.out.1.trans (below_to HB3.out (by have := HI.out.2.1.lt; omega)), j + 1, rfl, rfl, by omega, by rw [HNN.out]; omega, (HI.out.2.1.below HB3.out).more (by omega), HI.out.2.2.1⟩
                  · have HCL : Hid (closesB ln nw = false) := Lib.hid (by
                      unfold closesB
                      rw [HH.out, ht2]
                      show (nw == nw && trimT b == []) = false
                      rw [beq_eq_false_iff_ne.2 hb0]
                      simp)
                    have q2 := nil_ne hb0
                    have q3 := nil_ne3 hb0
                    clear ht2 hb0
                    go_wp2_with (first
                      | (go_at_call 23; refine HTAG.out.mono ?_; rintro e w3 ⟨hb3, rfl⟩; have HB3 := Lib.hid hb3; clear hb3)
                      | (go_at_call 22; refine (HTRB.out _).mono ?_; rintro e w4 ⟨rfl, hb4⟩; have HB4 := Lib.hid hb4; clear hb4))
                    go_meet
                    case rel =>
                      obtain rfl := HB4.out
                      exact Lib.hid ⟨HB3.out, HCL.out⟩
                · have HCL : Hid (closesB ln tw = false) := Lib.hid (by
                    unfold closesB
                    rw [HH.out, ht2]
                    show (nw == tw && trimT b == []) = false
                    rw [beq_eq_false_iff_ne.2 hnt]
                    rfl)
                  have q1 := same_not hnt
                  rw [HTY.out] at q1
                  clear ht2
                  go_wp2_with (go_at_call 23; refine HTAG.out.mono ?_; rintro e w3 ⟨hb3, rfl⟩; have HB3 := Lib.hid hb3; clear hb3)
                  go_meet
                  case rel => exact Lib.hid ⟨HB3.out, HCL.out⟩
            | false =>
              have hh : ¬ ln.head? = some 45 := by simpa using HBE.out
              have HCL : Hid (closesB ln tw = false) := Lib.hid (by
                unfold closesB
                split
                · rename_i h _
                  exact absurd h hh
                · rfl)
              clear hh
              go_wp2_with fail
              go_meet
              case rel => exact Lib.hid ⟨Below.refl _ _, HCL.out⟩
          case rest =>
            obtain ⟨hbc, hcl⟩ := hcut.out
            have HBC := Lib.hid hbc
            have HRD : Hid (RdRt X wc L B M sj (n + (j - i))) := Lib.hid (HI.out.2.1.below hbc)
            have HBL : Hid (Below L w wc) := Lib.hid (HI.out.1.trans (below_to hbc (by have := HI.out.2.1.lt; omega)))
            have hbk := HBK.out
            unfold stepB at hbk
            rw [if_neg (by rw [hcl]; decide)] at hbk
            have HTR := Lib.hid (rtrim_c s (by have := HSS.out; have := HMX.out; omega) wc)
            rw [HBS.out] at HTR
            have HCU := Lib.hid HI.out.2.2.1
            clear hcut hbc hcl HBK HBE
            by_cases h0 : trimT ln = []
            · rw [if_pos h0] at hbk
              have HN0 : Hid (blkS tw (ls.drop (j + 1)) sj = RES) := Lib.hid hbk
              rw [h0] at HTR
              have HTE : mkB [] = ⟨#[]⟩ := rfl
              rw [HTE] at HTR
              clear hbk h0 HTE
              go_wp2_with (go_at_call 22; refine HTR.out.mono ?_; rintro e w4 ⟨rfl, hw⟩; subst hw)
              go_roundg (gJ - 1)
              case measure => omega
              case rel => exact ⟨j + 1, sj, by go_num, by omega, by omega, by omega, HBL.out, HRD.out.more (by omega), HCU.out, HN0.out⟩
            · rw [if_neg h0] at hbk
              have q2 := nil_ne h0
              have q3 := nil_ne3 h0
              by_cases hp : tw = pkgW
              · have hput : putS sj tw ln = .ok sj := by rw [hp]; exact put_pkg HCU.out
                have HN0 : Hid (blkS tw (ls.drop (j + 1)) sj = RES) := Lib.hid (by
                  rw [hput] at hbk
                  exact hbk)
                have e1 : (t.toList == [80, 107, 103]) = true := by rw [← HTY.out, hp, bs_toList, bs_mkB]; rfl
                clear hbk h0 hput hp
                go_wp2_with (go_at_call 22; refine HTR.out.mono ?_; rintro e w4 ⟨rfl, hw⟩; subst hw)
                go_roundg (gJ - 1)
                case measure => omega
                case rel => exact ⟨j + 1, sj, by go_num, by omega, by omega, by omega, HBL.out, HRD.out.more (by omega), HCU.out, HN0.out⟩
              · have e1 : (t.toList == [80, 107, 103]) = false := lit_ne (by rw [HTW.out]; exact hp)
                have HPUT := Lib.hid (rput_c HRD.out HCU.out (by omega) t s ht (by have := HSS.out; omega))
                rw [HTW.out, HBS.out] at HPUT
                have HPS : Hid (∀ st', putS sj tw ln = .ok st' → st'.cur.isSome = true) := Lib.hid fun st' h => putS_cur h HCU.out
                have HPE : Hid (∀ x, putS sj tw ln = .err x → x = 130) := Lib.hid fun x h => put_err h
                generalize putS sj tw ln = r at HPUT HPS HPE hbk
                cases r with
                | err x =>
                  obtain rfl := HPE.out x rfl
                  have HRO : Hid (BRes.err 130 = RES) := Lib.hid hbk
                  clear hbk h0 hp HPS HPE
                  go_wp2_with (first
                    | (go_at_call 22; refine HTR.out.mono ?_; rintro e w4 ⟨rfl, hw⟩; subst hw)
                    | (go_at_call 57; refine HPUT.out.mono ?_; rintro e w5 ⟨hb5, rfl⟩; have HB5 := Lib.hid hb5; clear hb5))
                  refine bodyPost_ret (v := .tuple #[.int .i64 0, .int .i64 130]) (by simp [results, Tryz.results25, go_sem]) rfl ?_
                  rw [← HRO.out]
                  exact ⟨HBL.out.trans HB5.out, rfl, by decide⟩
                | ok st' =>
                  have HC' := Lib.hid (HPS.out st' rfl)
                  have HN0 : Hid (blkS tw (ls.drop (j + 1)) st' = RES) := Lib.hid hbk
                  clear hbk h0 hp HPS HPE
                  go_wp2_with (first
                    | (go_at_call 22; refine HTR.out.mono ?_; rintro e w4 ⟨rfl, hw⟩; subst hw)
                    | (go_at_call 57; refine HPUT.out.mono ?_; rintro e w5 ⟨hb5, rfl, hst5⟩; have HB5 := Lib.hid hb5; have HST5 := Lib.hid hst5; clear hb5 hst5))
                  go_roundg (gJ - 1)
                  case measure => omega
                  case rel => exact ⟨j + 1, st', by go_num, by omega, by omega, by omega, HBL.out.trans HB5.out, HST5.out.more (by omega), HC'.out, HN0.out⟩
      · obtain rfl : j = N := by omega
        have hj1 : ¬ (j : Int) < (j : Int) := by omega
        have HRO : Hid (BRes.err 130 = RES) := Lib.hid (by
          have h1 := HI.out.2.2.2
          rw [← HNN.out, List.drop_length, blkS] at h1
          exact h1)
        go_wp2_with fail
        refine bodyPost_ret (v := .tuple #[.int .i64 0, .int .i64 130]) (by simp [results, Tryz.results25, go_sem]) rfl ?_
        rw [← HRO.out]
        exact ⟨HI.out.1, rfl, by decide⟩
end Go.Proofs.YtjcefgjgjhdbpaaGreatDoor
namespace Go.Proofs.YtjcefgjgjhdbpaaGreatDoor
set_option linter.unusedVariables false
set_option linter.unusedSimpArgs false
open Go.RowKit Go.Maps

theorem lines_sizes : ∀ (n : Nat) (l : Wd), l.length ≤ n → (linesB l).length ≤ l.length ∧ ∀ x ∈ linesB l, x.length ≤ l.length
  | n, [], _ => ⟨Nat.le_refl _, fun x h => by cases h⟩
  | 0, c :: l, h => by simp at h
  | n + 1, c :: l, h => by
    have h1 := restOf_len c l
    rw [linesB_cons (by simp)]
    simp only [List.length_cons] at *
    obtain ⟨h2, h3⟩ := lines_sizes n (restOf (c :: l)) (by omega)
    refine ⟨by omega, fun x hx => ?_⟩
    rcases List.mem_cons.1 hx with rfl | hx
    · exact (List.takeWhile_prefix _).length_le
    · have := h3 x hx
      omega
theorem bool_or {s : ByteArray} (h : 0 < s.size) (c : UInt8) : (bs s).head? = some c ↔ (s[0]'h) = c := by
  rw [head_at h]
  simp
/-- The reader, made. -/
theorem rrd_start {w w1 w2 : World} {B M : Nat} {X : Obj} (hB : w.heap.size = B) (e : w1 = w.alloc (.cells #[.slice none 0 0, .string ⟨#[]⟩, .string ⟨#[]⟩, .string ⟨#[]⟩, .string ⟨#[]⟩, .slice none 0 0, .slice none 0 0, .slice none 0 0, .slice none 0 0, .slice none 0 0, .slice none 0 0, .slice none 0 0, .slice none 0 0, .bool false] 52)) (hb : Below w1.heap.size w1 w2) (hM : w2.heap[M]? = some X) (hlo : w1.heap.size ≤ M) :
    Below w.heap.size w w2 ∧ RdRt X w2 w.heap.size B M ⟨[], none⟩ 0 := by
  have hbx : BoxN w1 B [.slice none 0 0, .string ⟨#[]⟩, .string ⟨#[]⟩, .string ⟨#[]⟩, .string ⟨#[]⟩, .slice none 0 0, .slice none 0 0, .slice none 0 0, .slice none 0 0, .slice none 0 0, .slice none 0 0, .slice none 0 0, .slice none 0 0, .bool false] 52 := by
    rw [e, ← hB]
    exact boxN_alloc _ _ _
  have hb1 : Below w.heap.size w w1 := by rw [e]; exact below1 _ _
  have hs1 : w1.heap.size = w.heap.size + 1 := by rw [e]; simp
  have h0 : (⟨#[]⟩ : ByteArray).size ≤ maxLen := by decide
  refine ⟨below_tr hb1 hb, fun _ => False, noSP, .slice none 0 0, fun _ => .slice none 0 0, .slice none 0 0, ⟨hbx.below hb, ⟨by omega, by omega, hM, ⟨[], World.ownsRow_nil _ _ _ _, fun j hj => absurd hj (Nat.not_lt_zero _)⟩, fun b hb => hb.elim, by omega, by simp [Value.ownBlock], by simp [Value.ownBlock], id, id, fun b hb => hb.elim⟩, CurO.empty noSP h0 h0 h0 h0 (fun _ => rfl) rfl⟩, fun q hq => (by cases hq), fun i => Nat.le_refl _, Nat.le_refl _, Nat.zero_le _⟩
set_option maxHeartbeats 16000000 in
set_option maxRecDepth 1000000 in
/-- The document's Parse. -/
theorem rsparse_c (txt : ByteArray) (htx : txt.size ≤ maxLen) (w : World) : Calls Tryz.prog 8 #[.string txt] w (ParsedP w (suseParse txt)) := by
  unfold suseParse
  by_cases hz : 40000 < txt.size
  · rw [if_pos hz]
    have g1 : (40000 : Int) < (txt.size : Int) := by omega
    clear hz
    go_enter Tryz.func8, Tryz.ntmps8
    go_wp2_with fail
    refine bodyPost_ret (v := .tuple #[.slice none 0 0, .int .i64 132]) (by simp [results, Tryz.results8, go_sem]) rfl ?_
    exact ⟨_, rfl, Below.refl _ _, pkgs_none _ _⟩
  · rw [if_neg hz]
    have g1 : ¬ (40000 : Int) < (txt.size : Int) := by omega
    obtain ⟨R, hR⟩ : ∃ R, runS none (linesB (bs txt)) ⟨[], none⟩ = R := ⟨_, rfl⟩
    rw [hR]
    have HL := Lib.hid (fun W => lines_c txt (by omega) W)
    have hlsz := lines_sizes (bs txt).length (bs txt) (Nat.le_refl _)
    rw [bs_length] at hlsz
    obtain ⟨ls, hls⟩ : ∃ x, linesB (bs txt) = x := ⟨_, rfl⟩
    rw [hls] at hR HL hlsz
    have HR := Lib.hid hR
    have HSM : Hid (∀ x ∈ ls, x.length ≤ 40000) := Lib.hid fun x hx => by have := hlsz.2 x hx; omega
    have hll : ls.length ≤ 40000 := by have := hlsz.1; omega
    have HMX : Hid (40000 ≤ maxLen) := Lib.hid (by decide)
    clear hz hR hls hlsz
    obtain ⟨w1, e1⟩ : ∃ w1, w.alloc (.cells #[.slice none 0 0, .string ⟨#[]⟩, .string ⟨#[]⟩, .string ⟨#[]⟩, .string ⟨#[]⟩, .slice none 0 0, .slice none 0 0, .slice none 0 0, .slice none 0 0, .slice none 0 0, .slice none 0 0, .slice none 0 0, .slice none 0 0, .bool false] 52) = w1 := ⟨_, rfl⟩
    have HE1 := Lib.hid e1
    have HB1 : Hid (Below w.heap.size w w1 ∧ BoxN w1 w.heap.size [.slice none 0 0, .string ⟨#[]⟩, .string ⟨#[]⟩, .string ⟨#[]⟩, .string ⟨#[]⟩, .slice none 0 0, .slice none 0 0, .slice none 0 0, .slice none 0 0, .slice none 0 0, .slice none 0 0, .slice none 0 0, .slice none 0 0, .bool false] 52) := by
      rw [← e1]
      exact ⟨below1 _ _, boxN_alloc _ _ _⟩
    obtain ⟨N, hN⟩ : ∃ N, ls.length = N := ⟨_, rfl⟩
    have HNN := Lib.hid hN
    rw [hN] at HL hll
    clear hN
    go_enter Tryz.func8, Tryz.ntmps8
    go_upto_region 5 with (go_at_call 21; refine (HL.out w1).mono ?_; rintro e w2 ⟨a, cap, rfl, hb2, hr2⟩; have HB2 := Lib.hid hb2; have HR2 := Lib.hid hr2; clear hb2 hr2)
    clear e1 HL
    by_cases hN0 : N = 0
    · subst hN0
      have HBX2 := Lib.hid (HB1.out.2.below HB2.out)
      have HBL : Hid (Below w.heap.size w w2) := Lib.hid (below_tr HB1.out.1 HB2.out)
      have HF : Hid (ParsedP w R (.returned (.tuple #[.slice none 0 0, .int .i64 0])) w2) := Lib.hid (by
        have h1 := HR.out
        have h2 : ls = [] := List.length_eq_zero_iff.1 HNN.out
        rw [h2] at h1
        rw [← h1]
        exact ⟨_, rfl, HBL.out, pkgs_none _ _⟩)
      have HWN := Lib.hid (rwhole_no w.heap.size _ w2 HBX2.out rfl)
      clear HR2 HB2
      go_wp2_with fail
      go_loopg [6] 1 (fun gk v6 wx => v6 = .int .i64 0 ∧ w2 = wx)
      case atStart => exact ⟨rfl, rfl⟩
      case round =>
        obtain ⟨rfl, rfl⟩ := hrel
        have c0 := HBX2.out.cell (j := 0) rfl
        go_wp2_with (go_at_call 26; refine HWN.out.mono ?_; rintro e w3 ⟨rfl, hw⟩; obtain rfl : w2 = w3 := hw.symm)
        refine bodyPost_ret (v := .tuple #[.slice none 0 0, .int .i64 0]) (by simp [results, Tryz.results8, go_sem]) rfl ?_
        exact HF.out
    · rcases ownsRow_form HR2.out with ⟨_, h0⟩ | ⟨M, cap', e, hcap, _⟩
      · exact absurd h0 hN0
      · injection e with e1 _ e3
        subst e1 e3
        obtain ⟨X, hX⟩ : ∃ X, w2.heap[M]? = some X := by
          rcases HR2.out.2 with ⟨h1, _⟩ | ⟨g, cap2, cur, h1, _, hg, _⟩
          · cases h1
          · cases h1
            exact ⟨_, hg⟩
        have HLN : Hid (LnsX X M ls) := Lib.hid fun W hW i hi => by
          have h1 := ownsRow_to HR2.out (w' := W) (fun g hg => by
            obtain rfl : M = g := Option.some.inj hg
            rw [hW, hX])
          exact ownsRow_cell h1 (by unfold strsL; simp [hi])
        obtain ⟨B, hB⟩ : ∃ B, w.heap.size = B := ⟨_, rfl⟩
        have HST := Lib.hid (rrd_start hB HE1.out.symm HB2.out hX (HR2.out.lt M rfl).1)
        try rw [hB]
        clear hcap HR2 HB2 HB1 HE1 hX hB
        go_wp2_with fail
        go_loopg [6] N (fun gk v6 wx => ∃ (j : Nat) (sj : SSt), v6 = .int .i64 (j : Int) ∧ j ≤ N ∧ N ≤ j + gk ∧ Hid (Below w.heap.size w wx ∧ RdRt X wx w.heap.size B M sj j ∧ runS none (ls.drop j) sj = R))
        case atStart => exact ⟨0, ⟨[], none⟩, rfl, Nat.zero_le _, by omega, HST.out.1, HST.out.2, HR.out⟩
        case round =>
          clear HST HR
          obtain ⟨j, sj, rfl, hjN, hjk, HI⟩ := hrel
          obtain ⟨wa, rfl⟩ : ∃ x : World, x = wr := ⟨_, rfl⟩
          obtain ⟨gJ, rfl⟩ : ∃ x : Nat, x = gk := ⟨_, rfl⟩
          by_cases hlt : j < N
          · have hj1 : (j : Int) < (N : Int) := by omega
            have q3 := wrap1 (n := j) (by omega)
            have hjl : j < ls.length := by rw [HNN.out]; exact hlt
            have hcell := HLN.out wa HI.out.2.1.cont j hjl
            have hdr := List.drop_eq_getElem_cons hjl
            have hsz : ls[j].length ≤ 40000 := HSM.out _ (List.getElem_mem hjl)
            obtain ⟨ln, hln⟩ : ∃ x, ls[j] = x := ⟨_, rfl⟩
            rw [hln] at hcell hdr hsz
            have hbk : (match stepN ln sj with
              | .err e => (([] : List PkgT), e)
              | .go m' st' => runS m' (ls.drop (j + 1)) st') = R := by
              have h1 := HI.out.2.2
              rw [hdr, runN_cons] at h1
              exact h1
            unfold stepN at hbk
            obtain ⟨s, hs⟩ : ∃ s, mkB ln = s := ⟨_, rfl⟩
            have hbs : bs s = ln := by rw [← hs]; rfl
            have hss : s.size ≤ 40000 := by rw [← bs_length, hbs]; exact hsz
            rw [hs] at hcell
            have HBS := Lib.hid hbs
            have HSS := Lib.hid hss
            have HTR := Lib.hid (rtrim_c s (by have := HMX.out; omega) wa)
            rw [hbs] at HTR
            clear hln hdr hs hbs hsz
            by_cases h0 : trimT ln = []
            · have HN0 : Hid (runS none (ls.drop (j + 1)) sj = R) := Lib.hid (by
                rw [if_pos (.inl h0)] at hbk
                exact hbk)
              rw [h0] at HTR
              have HTE : mkB [] = ⟨#[]⟩ := rfl
              rw [HTE] at HTR
              clear hbk h0 HTE
              go_wp2_with (go_at_call 22; refine HTR.out.mono ?_; rintro e w4 ⟨rfl, hw⟩; obtain rfl : wa = w4 := hw.symm)
              go_roundg (gJ - 1)
              case measure => omega
              case rel => exact ⟨j + 1, sj, by go_num, by omega, by omega, HI.out.1, HI.out.2.1.more (by omega), HN0.out⟩
            · have q2 := nil_ne h0
              have q4 := nil_ne3 h0
              have hne : ln ≠ [] := fun e => h0 (by rw [e]; rfl)
              have h1 : 0 < s.size := by
                rw [← bs_length, HBS.out]
                exact List.length_pos_iff.2 hne
              have hh : ∀ c : UInt8, ln.head? = some c ↔ (s[0]'h1) = c := fun c => by rw [← HBS.out]; exact bool_or h1 c
              have g0 : (0 : Int) < (s.size : Int) := by omega
              by_cases h35 : (s[0]'h1) = 35
              · have HN0 : Hid (runS none (ls.drop (j + 1)) sj = R) := Lib.hid (by
                  rw [if_pos (.inr ((hh 35).2 h35))] at hbk
                  exact hbk)
                have qc : ((s[0].toNat : Int) == 35) = true := by rw [h35]; rfl
                clear hbk h0 h35 hh
                go_wp2_with (go_at_call 22; refine HTR.out.mono ?_; rintro e w4 ⟨rfl, hw⟩; obtain rfl : wa = w4 := hw.symm)
                go_roundg (gJ - 1)
                case measure => omega
                case rel => exact ⟨j + 1, sj, by go_num, by omega, by omega, HI.out.1, HI.out.2.1.more (by omega), HN0.out⟩
              · have qc35 : ((s[0].toNat : Int) == 35) = false := u8b h35
                rw [if_neg (by rintro (e | e); exact h0 e; exact h35 ((hh 35).1 e))] at hbk
                have HTAG := Lib.hid (rtag_c s (by have := HSS.out; omega) h1 wa)
                rw [HBS.out] at HTAG
                have hbl : ∀ W, Below wa.heap.size wa W → Below w.heap.size w W := fun W hW => HI.out.1.trans (below_to hW HI.out.1.size)
                have HBL := Lib.hid hbl
                have HERR : Hid (R = ([], 130) → ∀ W, Below w.heap.size w W → ParsedP w R (.returned (.tuple #[.slice none 0 0, .int .i64 130])) W) := Lib.hid fun h W hW => by
                  rw [h]
                  exact ⟨_, rfl, hW, pkgs_none _ _⟩
                clear h0 h35 hbl
                cases ht2 : tagOf ln with
                | none =>
                  rw [ht2] at HTAG hbk
                  have HR0 := Lib.hid hbk.symm
                  clear hbk ht2 hh
                  go_upto_region 12 with (first
                    | (go_at_call 22; refine HTR.out.mono ?_; rintro e w4 ⟨rfl, hw⟩; obtain rfl : wa = w4 := hw.symm)
                    | (go_at_call 23; refine HTAG.out.mono ?_; rintro e w5 ⟨hb5, ta, tb, rfl, _, _⟩; have HB5 := Lib.hid hb5; clear hb5))
                  have HF := Lib.hid (HERR.out HR0.out _ (HBL.out _ HB5.out))
                  go_wp2_with fail
                  refine bodyPost_ret (v := .tuple #[.slice none 0 0, .int .i64 130]) (by simp [results, Tryz.results8, go_sem]) rfl ?_
                  exact HF.out
                | some y =>
                  obtain ⟨tw, rw0⟩ := y
                  rw [ht2] at HTAG hbk
                  have htl := tagOf_len ht2
                  have htz : (mkB tw).size ≤ 40000 := by
                    show tw.length ≤ 40000
                    have h3 : s.size = ln.length := by rw [← bs_length, HBS.out]
                    have h4 : tw.length ≤ ln.length := htl.1
                    omega
                  have hrz : (mkB rw0).size ≤ 40000 := by
                    show rw0.length ≤ 40000
                    have h3 : s.size = ln.length := by rw [← bs_length, HBS.out]
                    have h4 : rw0.length ≤ ln.length := htl.2
                    omega
                  clear ht2 htl
                  simp only at hbk
                  by_cases h61 : (s[0]'h1) = 61
                  · rw [if_pos ((hh 61).2 h61)] at hbk
                    have qc61 : ((s[0].toNat : Int) == 61) = true := by rw [h61]; rfl
                    have qd61 : ((s[0].toNat : Int) != 61) = false := by rw [bne, qc61]; rfl
                    have qc43 : ((s[0].toNat : Int) == 43) = false := by rw [h61]; rfl
                    have HONE := Lib.hid (fun W hW => rone_c (HI.out.2.1.below (w' := W) hW) (by omega) (mkB tw) (mkB rw0) htz hrz)
                    rw [bs_mkB, bs_mkB] at HONE
                    have HOE : Hid (∀ x, oneS sj tw rw0 = .err x → x ≠ 0) := Lib.hid fun x h => one_err h
                    generalize oneS sj tw rw0 = r at HONE HOE hbk
                    clear hh h61
                    cases r with
                    | err x =>
                      have hx0 := HOE.out x rfl
                      have qx1 : (x == 0) = false := by simpa using hx0
                      have qx2 : (x != 0) = true := by rw [bne, qx1]; rfl
                      have HR0 : Hid (([], x) = R) := Lib.hid hbk
                      clear hbk HOE hx0
                      go_upto_region 18 with (first
                        | (go_at_call 22; refine HTR.out.mono ?_; rintro e w4 ⟨rfl, hw⟩; obtain rfl : wa = w4 := hw.symm)
                        | (go_at_call 23; refine HTAG.out.mono ?_; rintro e w5 ⟨hb5, rfl⟩; have HB5 := Lib.hid hb5; clear hb5)
                        | (go_at_call 24; refine (HONE.out _ HB5.out).mono ?_; rintro e w6 ⟨hb6, rfl⟩; have HB6 := Lib.hid hb6; clear hb6))
                      have HF : Hid (ParsedP w R (.returned (.tuple #[.slice none 0 0, .int .i64 x])) w6) := Lib.hid (by
                        rw [← HR0.out]
                        exact ⟨_, rfl, (HBL.out _ HB5.out).trans HB6.out, pkgs_none _ _⟩)
                      go_wp2_with fail
                      refine bodyPost_ret (v := .tuple #[.slice none 0 0, .int .i64 x]) (by simp [results, Tryz.results8, go_sem]) rfl ?_
                      exact HF.out
                    | ok st' =>
                      have HN0 : Hid (runS none (ls.drop (j + 1)) st' = R) := Lib.hid hbk
                      clear hbk HOE
                      go_wp2_with (first
                        | (go_at_call 22; refine HTR.out.mono ?_; rintro e w4 ⟨rfl, hw⟩; obtain rfl : wa = w4 := hw.symm)
                        | (go_at_call 23; refine HTAG.out.mono ?_; rintro e w5 ⟨hb5, rfl⟩; have HB5 := Lib.hid hb5; clear hb5)
                        | (go_at_call 24; refine (HONE.out _ HB5.out).mono ?_; rintro e w6 ⟨hb6, rfl, hst6⟩; have HB6 := Lib.hid hb6; have HST6 := Lib.hid hst6; clear hb6 hst6))
                      go_roundg (gJ - 1)
                      case measure => omega
                      case rel => exact ⟨j + 1, st', by go_num, by omega, by omega, (HBL.out _ HB5.out).trans HB6.out, HST6.out, HN0.out⟩
                  · rw [if_neg (fun e => h61 ((hh 61).1 e))] at hbk
                    have qc61 : ((s[0].toNat : Int) == 61) = false := u8b h61
                    have qd61 : ((s[0].toNat : Int) != 61) = true := by rw [bne, qc61]; rfl
                    by_cases h43 : (s[0]'h1) = 43
                    · have qc43 : ((s[0].toNat : Int) == 43) = true := by rw [h43]; rfl
                      have qd43 : ((s[0].toNat : Int) != 43) = false := by rw [bne, qc43]; rfl
                      have hh43 := (hh 43).2 h43
                      have HTRB := Lib.hid (fun W => rtrim_c (mkB rw0) (by have := HMX.out; omega) W)
                      rw [bs_mkB] at HTRB
                      by_cases hb0 : trimT rw0 = []
                      · rw [hb0] at HTRB
                        have HTE : mkB [] = ⟨#[]⟩ := rfl
                        rw [HTE] at HTRB
                        have HBLK := Lib.hid (fun W hW => rblock_c (HI.out.2.1.below (w' := W) hW) ls HLN.out cap (by rw [HNN.out]; exact hll) HSM.out (mkB tw) htz (j + 1) (by rw [HNN.out]; omega) (by omega))
                        rw [bs_mkB, HNN.out] at HBLK
                        have hbk2 : (match (if sj.cur.isSome = true then blkS tw (ls.drop (j + 1)) sj else .err 130) with
                          | .err e => (([] : List PkgT), e)
                          | .ok l' st' => runS none l' st') = R := by
                          rw [← hbk]
                          by_cases hcu : sj.cur.isSome = true
                          · rw [if_pos hcu, if_pos ⟨hh43, hb0, hcu⟩]
                            exact (blk_run tw _ sj).symm
                          · rw [if_neg hcu, if_neg (fun h => hcu h.2.2)]
                        generalize (if sj.cur.isSome = true then blkS tw (ls.drop (j + 1)) sj else .err 130) = r at HBLK hbk2
                        clear hh h61 h43 hh43 hb0 HTE hbk
                        cases r with
                        | err x =>
                          have HR0 : Hid (([], x) = R) := Lib.hid hbk2
                          clear hbk2
                          go_upto_region 10 with (go_at_call 22; refine HTR.out.mono ?_; rintro e w4 ⟨rfl, hw⟩; obtain rfl : wa = w4 := hw.symm)
                          clear HTR
                          go_upto_region 17 with (first
                            | (go_at_call 23; refine HTAG.out.mono ?_; rintro e w5 ⟨hb5, rfl⟩; have HB5 := Lib.hid hb5; clear hb5)
                            | (go_at_call 22; refine (HTRB.out _).mono ?_; rintro e w6 ⟨rfl, hw⟩; obtain rfl : w5 = w6 := hw.symm)
                            | (go_at_call 25; refine (HBLK.out _ HB5.out).mono ?_; rintro e w7 ⟨hb7, rfl, hx0⟩; have HB7 := Lib.hid hb7; have HX0 := Lib.hid hx0; clear hb7 hx0))
                          have qx1 : (x == 0) = false := by simpa using HX0.out
                          have qx2 : (x != 0) = true := by rw [bne, qx1]; rfl
                          have HF : Hid (ParsedP w R (.returned (.tuple #[.slice none 0 0, .int .i64 x])) w7) := Lib.hid (by
                            rw [← HR0.out]
                            exact ⟨_, rfl, (HBL.out _ HB5.out).trans HB7.out, pkgs_none _ _⟩)
                          go_wp2_with fail
                          refine bodyPost_ret (v := .tuple #[.slice none 0 0, .int .i64 x]) (by simp [results, Tryz.results8, go_sem]) rfl ?_
                          exact HF.out
                        | ok l' st' =>
                          have HN0 : Hid (runS none l' st' = R) := Lib.hid hbk2
                          clear hbk2
                          go_upto_region 10 with (go_at_call 22; refine HTR.out.mono ?_; rintro e w4 ⟨rfl, hw⟩; obtain rfl : wa = w4 := hw.symm)
                          clear HTR
                          go_wp2_with (first
                            | (go_at_call 23; refine HTAG.out.mono ?_; rintro e w5 ⟨hb5, rfl⟩; have HB5 := Lib.hid hb5; clear hb5)
                            | (go_at_call 22; refine (HTRB.out _).mono ?_; rintro e w6 ⟨rfl, hw⟩; obtain rfl : w5 = w6 := hw.symm)
                            | (go_at_call 25; refine (HBLK.out _ HB5.out).mono ?_; rintro e w7 ⟨hb7, j2, rfl, hd2, hij2, hjl2, hst2, _⟩; have HB7 := Lib.hid hb7; have HD2 := Lib.hid hd2; have HST2 := Lib.hid hst2; clear hb7 hd2 hst2))
                          go_roundg (gJ - 1)
                          case measure => omega
                          case rel => exact ⟨j2, st', rfl, by have := HNN.out; omega, by omega, (HBL.out _ HB5.out).trans HB7.out, HST2.out.more (by omega), by rw [HD2.out]; exact HN0.out⟩
                      · have q5 := nil_ne2 hb0
                        have q6 := nil_ne hb0
                        have q7 := nil_ne3 hb0
                        have HR0 : Hid (R = ([], 130)) := Lib.hid (by
                          rw [if_neg (fun h => hb0 h.2.1)] at hbk
                          exact hbk.symm)
                        clear hh h61 h43 hh43 hb0 hbk
                        go_upto_region 10 with (go_at_call 22; refine HTR.out.mono ?_; rintro e w4 ⟨rfl, hw⟩; obtain rfl : wa = w4 := hw.symm)
                        clear HTR
                        go_upto_region 12 with (first
                          | (go_at_call 23; refine HTAG.out.mono ?_; rintro e w5 ⟨hb5, rfl⟩; have HB5 := Lib.hid hb5; clear hb5)
                          | (go_at_call 22; refine (HTRB.out _).mono ?_; rintro e w6 ⟨rfl, hw⟩; obtain rfl : w5 = w6 := hw.symm))
                        have HF := Lib.hid (HERR.out HR0.out _ (HBL.out _ HB5.out))
                        go_wp2_with fail
                        refine bodyPost_ret (v := .tuple #[.slice none 0 0, .int .i64 130]) (by simp [results, Tryz.results8, go_sem]) rfl ?_
                        exact HF.out
                    · have qc43 : ((s[0].toNat : Int) == 43) = false := u8b h43
                      have qd43 : ((s[0].toNat : Int) != 43) = true := by rw [bne, qc43]; rfl
                      have HR0 : Hid (R = ([], 130)) := Lib.hid (by
                        rw [if_neg (fun h => h43 ((hh 43).1 h.1))] at hbk
                        exact hbk.symm)
                      clear hh h61 h43 hbk
                      go_upto_region 10 with (go_at_call 22; refine HTR.out.mono ?_; rintro e w4 ⟨rfl, hw⟩; obtain rfl : wa = w4 := hw.symm)
                      clear HTR
                      go_upto_region 12 with (first
                        | (go_at_call 23; refine HTAG.out.mono ?_; rintro e w5 ⟨hb5, rfl⟩; have HB5 := Lib.hid hb5; clear hb5))
                      have HF := Lib.hid (HERR.out HR0.out _ (HBL.out _ HB5.out))
                      go_wp2_with fail
                      refine bodyPost_ret (v := .tuple #[.slice none 0 0, .int .i64 130]) (by simp [results, Tryz.results8, go_sem]) rfl ?_
                      exact HF.out
          · obtain rfl : j = N := by omega
            have hj1 : ¬ (j : Int) < (j : Int) := by omega
            have hrun := HI.out.2.2
            rw [← HNN.out, List.drop_length, runN_nil] at hrun
            have HW := Lib.hid (rwhole_c HI.out.2.1 (by omega))
            have hwl := whole_len1 sj
            have hol := HI.out.2.1.len
            have HBI := Lib.hid HI.out.1
            unfold endS at hrun
            generalize (wholeS sj).1 = out at HW hrun hwl
            generalize (wholeS sj).2 = Q at HW hrun
            clear HI
            by_cases hQ : Q = 0
            · subst hQ
              rw [if_neg (by simp)] at hrun
              have HF2 : Hid (∀ W vo K, Below w.heap.size wa W → OutR X W w.heap.size B M K out vo → ParsedP w R (.returned (.tuple #[vo, .int .i64 0])) W) := Lib.hid (by
                intro W vo K hb ho
                subst hrun
                exact ⟨vo, rfl, HBI.out.trans hb, ho.pkgs (by omega)⟩)
              clear hrun hwl hol
              go_upto_region 20 with (go_at_call 26; refine HW.out.mono ?_; rintro e w3 ⟨rfl, hb3, hx3⟩; have HB3 := Lib.hid hb3; have HX3 := Lib.hid hx3; clear hb3 hx3)
              obtain ⟨vo, K, z0, z1, z2, z3, z4, z5, z6, z7, z8, z9, z10, z11, has, hbx, ho⟩ := HX3.out (by first | rfl | trivial)
              have HF := Lib.hid (HF2.out _ _ _ HB3.out ho)
              obtain ⟨xs, hr, _⟩ := ho.row
              obtain ⟨va, vc, rfl⟩ := ownsRow_slice hr
              have c0 := hbx.cell (j := 0) rfl
              clear hbx ho hr HX3
              go_wp2_with fail
              refine bodyPost_ret (v := .tuple #[.slice va out.length vc, .int .i64 0]) (by simp [results, Tryz.results8, go_sem]) rfl ?_
              exact HF.out
            · have qx1 : (Q == 0) = false := by simpa using hQ
              have qx2 : (Q != 0) = true := by rw [bne, qx1]; rfl
              rw [if_pos hQ] at hrun
              have HR0 := Lib.hid hrun
              clear hrun hwl hol hQ
              go_upto_region 20 with (go_at_call 26; refine HW.out.mono ?_; rintro e w3 ⟨rfl, hb3, _⟩; have HB3 := Lib.hid hb3; clear hb3)
              have HF : Hid (ParsedP w R (.returned (.tuple #[.slice none 0 0, .int .i64 Q])) w3) := Lib.hid (by
                rw [← HR0.out]
                exact ⟨_, rfl, HBI.out.trans HB3.out, pkgs_none _ _⟩)
              go_wp2_with fail
              refine bodyPost_ret (v := .tuple #[.slice none 0 0, .int .i64 Q]) (by simp [results, Tryz.results8, go_sem]) rfl ?_
              exact HF.out
end Go.Proofs.YtjcefgjgjhdbpaaGreatDoor
