/-
  PoolAdds: the walk. Helper text; the conditions are those typed.
-/
import Derived.Test.YtgeimldijagkkaaGreatBothA
namespace Go.Proofs.YtgeimldijagkkaaGreat
set_option linter.unusedVariables false
set_option linter.unusedSimpArgs false
open Go.RowKit Go.Maps

theorem Both.has_yes {w : World} {B : Nat} {role : Nat → Role} {P M Q : Nat} {kd : Int} {rl : List RepoT} {rs : List RepoH} {ks : List KeptT} {ats : List (Nat × Nat)} (h : Both w B role P M Q kd rl rs ks ats) {k : Nat} (hk : k < ks.length) : Calls Tryz.prog 16 #[.pointer (some ⟨Q, 0, none⟩), .int .i64 (k : Int)] w fun e w' => e = .returned (.bool true) ∧ w = w' := by
  obtain ⟨mr, ma, h2, h3⟩ := h.doc
  refine (rhas_c h2 (k : Int)).mono ?_
  rintro e w' ⟨rfl, h4⟩
  refine ⟨?_, h4⟩
  have h5 := h.built.len.2
  have e1 : decide (0 ≤ (k : Int)) = true := decide_eq_true (by omega)
  have e2 : decide ((k : Int) < (ats.length : Int)) = true := decide_eq_true (by omega)
  rw [e1, e2]
  rfl
theorem Both.has_no {w : World} {B : Nat} {role : Nat → Role} {P M Q : Nat} {kd : Int} {rl : List RepoT} {rs : List RepoH} {ks : List KeptT} {ats : List (Nat × Nat)} (h : Both w B role P M Q kd rl rs ks ats) {id : Int} (hk : ¬ (0 ≤ id ∧ id < (ks.length : Int))) : Calls Tryz.prog 16 #[.pointer (some ⟨Q, 0, none⟩), .int .i64 id] w fun e w' => e = .returned (.bool false) ∧ w = w' := by
  obtain ⟨mr, ma, h2, h3⟩ := h.doc
  refine (rhas_c h2 id).mono ?_
  rintro e w' ⟨rfl, h4⟩
  refine ⟨?_, h4⟩
  have h5 := h.built.len.2
  have e1 : (decide (0 ≤ id) && decide (id < (ats.length : Int))) = false := by
    rw [Bool.and_eq_false_iff, decide_eq_false_iff_not, decide_eq_false_iff_not]
    omega
  rw [e1]
set_option maxHeartbeats 4000000 in
set_option maxRecDepth 100000 in
/-- Of no package's number. -/
theorem package_no {w : World} {B : Nat} {role : Nat → Role} {P M : Nat} {vr va : Value} {lv : ByteArray → Value} {kd : Int} {rs : List RepoH} {ks : List KeptT} {ns : List ByteArray} (h : PoolIn w B role P M vr va lv kd rs ks ns) (id : Int) (hid : ¬ (0 ≤ id ∧ id < (ks.length : Int))) :
    Calls Tryz.prog 15 #[.pointer (some ⟨P, 0, none⟩), .int .i64 id] w fun e w' => e = .returned (.tuple #[.agg #[.string ⟨#[]⟩, .string ⟨#[]⟩, .string ⟨#[]⟩, .string ⟨#[]⟩, .slice none 0 0, .slice none 0 0, .slice none 0 0, .slice none 0 0, .slice none 0 0, .slice none 0 0, .slice none 0 0, .slice none 0 0], .int .i64 0, .int .i64 69]) ∧ Below w.heap.size w w' := by
  obtain ⟨a, c, hva⟩ : ∃ a c, va = .slice a ks.length c := by
    obtain ⟨xs, ha, _⟩ := h.arow
    rcases ownsRow_form ha with ⟨e, h0⟩ | ⟨g, c, e, _⟩
    · exact ⟨none, 0, by rw [e, h0]⟩
    · exact ⟨_, c, e⟩
  subst hva
  obtain ⟨n, hn⟩ : ∃ n, ks.length = n := ⟨_, rfl⟩
  have hbox := h.box
  rw [hn] at hbox hid
  have c2 := (hbox.below (below1 w (.cells #[.string ⟨#[]⟩, .string ⟨#[]⟩, .string ⟨#[]⟩, .string ⟨#[]⟩, .slice none 0 0, .slice none 0 0, .slice none 0 0, .slice none 0 0, .slice none 0 0, .slice none 0 0, .slice none 0 0, .slice none 0 0] 44))).cell (j := 2) rfl
  have HB : Hid (Below w.heap.size w (w.alloc (.cells #[.string ⟨#[]⟩, .string ⟨#[]⟩, .string ⟨#[]⟩, .string ⟨#[]⟩, .slice none 0 0, .slice none 0 0, .slice none 0 0, .slice none 0 0, .slice none 0 0, .slice none 0 0, .slice none 0 0, .slice none 0 0] 44))) := below1 _ _
  clear hbox h hn
  by_cases h0 : id < 0
  · clear hid
    go_enter Tryz.func15, Tryz.ntmps15
    go_wp2_with fail
    refine bodyPost_ret (v := .tuple #[.agg #[.string ⟨#[]⟩, .string ⟨#[]⟩, .string ⟨#[]⟩, .string ⟨#[]⟩, .slice none 0 0, .slice none 0 0, .slice none 0 0, .slice none 0 0, .slice none 0 0, .slice none 0 0, .slice none 0 0, .slice none 0 0], .int .i64 0, .int .i64 69]) (by simp [results, Tryz.results15, go_sem]) rfl ?_
    exact ⟨rfl, HB.out⟩
  · have h1 : (n : Int) ≤ id := by omega
    clear hid
    go_enter Tryz.func15, Tryz.ntmps15
    go_wp2_with fail
    refine bodyPost_ret (v := .tuple #[.agg #[.string ⟨#[]⟩, .string ⟨#[]⟩, .string ⟨#[]⟩, .string ⟨#[]⟩, .slice none 0 0, .slice none 0 0, .slice none 0 0, .slice none 0 0, .slice none 0 0, .slice none 0 0, .slice none 0 0, .slice none 0 0], .int .i64 0, .int .i64 69]) (by simp [results, Tryz.results15, go_sem]) rfl ?_
    exact ⟨rfl, HB.out⟩

set_option maxHeartbeats 8000000 in
set_option maxRecDepth 100000 in
theorem adds_walk (kd : Int) (l : List RepoT) (a : Option Addr) (n c : Nat) (nm : ByteArray) (id : Int) (w : World) (hl : ReposV w (· < w.heap.size) l (.slice a n c)) (hnm : nm.size ≤ maxLen) :
    Calls Tryz.prog 3 #[.int .i64 kd, .slice a n c, .string nm, .int .i64 id] w fun e w' => e = .returned (.bool true) ∧ Below w.heap.size w w' := by
  obtain ⟨a2, c2, he, hnb, hin⟩ := hl
  injection he with h1 h2 h3
  subst h1 h3
  have HN := Lib.hid h2
  rw [← h2] at hnb
  have HIN := Lib.hid hin
  clear hin h2
  have hAW := Lib.hid (awake_c w)
  go_enter Tryz.func3, Tryz.ntmps3
  go_wp2_with fail
  refine hAW.out.mono ?_
  rintro e w1 ⟨rfl, hb1⟩
  have HB1 := Lib.hid hb1
  clear hb1 hAW
  by_cases hk : kd = 1 ∨ kd = 2
  · have hN := Lib.hid (new_c kd hk w1.heap.size w1 (Nat.le_refl _))
    go_wp2_with fail
    refine hN.out.mono ?_
    rintro e w2 ⟨rfl, hb2, hp2⟩
    have HB2 := Lib.hid hb2
    have HP2 := Lib.hid hp2
    have hR := Lib.hid (rnew_c kd hk w1.heap.size w2 hb2.size)
    clear hN hb2 hp2
    go_wp2_with fail
    refine hR.out.mono ?_
    rintro e w3 ⟨rfl, hb3, hm3⟩
    have HB3 := Lib.hid hb3
    have HM3 := Lib.hid hm3
    clear hR hb3 hm3
    have H0 : Hid (∃ role rl rs ks ats, Both w3 w1.heap.size role (w1.heap.size + 1) w1.heap.size w2.heap.size kd rl rs ks ats) := by
      refine ⟨_, [], [], [], [], ⟨_, _, _, HP2.out.below HB3.out⟩, ⟨_, _, HM3.out, fun b hb => ?_⟩, .nil, by decide, by decide⟩
      have hP := HP2.out.box.lt
      rcases hb with rfl | hb | hb
      · show (if w2.heap.size = w1.heap.size then _ else if w2.heap.size = w1.heap.size + 1 then _ else Role.free) = _
        rw [if_neg (by omega), if_neg (by omega)]
      · cases hb
      · cases hb
    have HB : Hid (Below w.heap.size w w3 ∧ w.heap.size ≤ w1.heap.size) := ⟨below_tr HB1.out (below_tr HB2.out HB3.out), HB1.out.size⟩
    generalize w1.heap.size + 1 = P at H0 ⊢
    generalize hM : w1.heap.size = M at H0 HB ⊢
    generalize w2.heap.size = Q at H0 ⊢
    clear HB1 HB2 HB3 HP2 HM3 hM
    clear w1 w2
    go_wp2_with fail
    go_loopw [14] (fun vi wr => ∃ i : Nat, vi = .int .i64 i ∧ i ≤ n ∧ Hid (Below w.heap.size w wr ∧ w.heap.size ≤ M ∧ ∃ role rl rs ks ats, Both wr M role P M Q kd rl rs ks ats)) (fun vi _ => n - (intOf vi).toNat)
    case atStart => exact ⟨0, rfl, Nat.zero_le _, HB.out.1, HB.out.2, H0.out⟩
    case round =>
      clear H0 HB
      obtain ⟨i, rfl, hin, HT⟩ := hrel
      obtain ⟨role, rl, rs, ks, ats, hboth⟩ := HT.out.2.2
      have HBO := Lib.hid hboth
      clear hboth
      by_cases hlt : i < n
      · have hi1 : (i : Int) < (n : Int) := by omega
        have hil : i < l.length := by have := HN.out; omega
        obtain ⟨b, off, rfl, hSb, hr⟩ := HIN.out (by intro e; rw [e] at hil; exact absurd hil (Nat.not_lt_zero _))
        obtain ⟨ap, np, cp, hpv, hcs⟩ := hr i hil
        obtain ⟨r, hre⟩ : ∃ r, l[i] = r := ⟨_, rfl⟩
        rw [hre] at hpv hcs
        have HPV := Lib.hid hpv
        have HCS : Hid (∀ W : World, Below w.heap.size w W → CellsAt W b (off + i * 4) [.string r.name, .int .i64 r.prio, .bool r.inst, .slice ap np cp]) := fun W hW => hcs.keep (hW.block b hSb)
        have hgc := HCS.out wr HT.out.1
        have g0 := hgc 0 _ rfl
        have g1 := hgc 1 _ rfl
        have g2 := hgc 2 _ rfl
        have g3 := hgc 3 _ rfl
        rw [Nat.add_zero] at g0
        have hO := Lib.hid (rrepoOwn_c r.name r.prio r.inst r.pkgs ap np cp _ wr (hpv.below HT.out.1))
        have hnp : r.pkgs.length = np := (pkgs_at hpv).1.symm
        have HNP := Lib.hid hnp
        have HNB : Hid (np * 256 ≤ 140737488355328) := (pkgs_at hpv).2.1
        clear hr hpv hcs hgc hre hSb hnp
        go_wp2_with fail
        refine hO.out.mono ?_
        rintro e w2 ⟨⟨a', c', rfl, hown⟩, hb2⟩
        have HB2 := Lib.hid hb2
        have HOWN := Lib.hid hown
        obtain ⟨w3, e3⟩ : ∃ w3, w2.alloc (.cells #[.string r.name, .int .i64 r.prio, .bool r.inst, .slice a' np c'] 33) = w3 := ⟨_, rfl⟩
        have HB3 : Hid (Below wr.heap.size wr w3 ∧ BoxN w3 w2.heap.size [.string r.name, .int .i64 r.prio, .bool r.inst, .slice a' np c'] 33 ∧ Below w2.heap.size w2 w3) := by
          rw [← e3]
          exact ⟨below_tr hb2 (below1 _ _), boxN_alloc _ _ _, below1 _ _⟩
        obtain ⟨vr, va, lv, hpool⟩ := HBO.out.pool
        have HPOOL := Lib.hid hpool
        have HLENT : Hid (PkgsV w3 (New wr.heap.size w3) r.pkgs (.slice a' np c')) := (hown.pkgs HNP.out HNB.out).keep (fun b hb => hb.below HB3.out.2.2) (fun b hb _ => HB3.out.2.2.block b hb.2.lt)
        have HMB : Hid (M ≤ wr.heap.size) := by
          have h1 := hpool.lo P (by rw [hpool.rP]; simp)
          have h2 := hpool.hi P (by rw [hpool.rP]; simp)
          show M ≤ wr.heap.size
          omega
        have hA := Lib.hid (add_c M role P M vr va lv kd rs ks r a' np c' (New wr.heap.size w3) w3 (hpool.below HB3.out.1) (Nat.le_trans HMB.out HB3.out.1.size) HBO.out.rlen HBO.out.klen HLENT.out (fun b hb => ⟨by
          by_cases e : role b = .free
          · exact e
          · have h1 := HPOOL.out.hi b e
            have h2 := hb.1
            exfalso
            omega, hb.2.lt⟩))
        have x0 := HB3.out.2.1.cell (j := 0) rfl
        have x1 := HB3.out.2.1.cell (j := 1) rfl
        have x2 := HB3.out.2.1.cell (j := 2) rfl
        have x3 := HB3.out.2.1.cell (j := 3) rfl
        clear hb2 hown hO hpool g0 g1 g2 g3
        go_wp2_with fail
        refine hA.out.mono ?_
        rintro e w4 ⟨rfl, role', vr', va', lv', hmv, hp4⟩
        obtain ⟨mr, ma, hdoc, hfree⟩ := HBO.out.doc
        have hlo : ∀ b, b < M → role b = .free := fun b hb => by
          by_cases e : role b = .free
          · exact e
          · have := HPOOL.out.lo b e
            omega
        have hd3 := hdoc.below HB3.out.1
        have hd4 : MIn w4 M (fun b => b < M) Q mr ma kd rl ats := hd3.keep (fun b hb => (hmv.block b (hd3.lt hb).2 (hfree b hb)).1) (fun b hb hl => (hmv.block b hl (hlo b hb)).1)
        have hs3 := HB3.out.1.size
        have hs0 := HT.out.1.size
        have hwM := HT.out.2.1
        have hBw4 : Below w.heap.size w w4 := by
          refine (below_tr HT.out.1 HB3.out.1).trans ⟨hmv.os, hmv.tape, hmv.output, hmv.size, fun b hb => ?_⟩
          have := (below_tr HT.out.1 HB3.out.1).size
          exact (hmv.block b (by omega) (hlo b (by omega))).1
        have hpv4 : PkgsV w4 (fun b => b < M) r.pkgs (.slice ap np cp) := HPV.out.keep (fun b hb => Nat.lt_of_lt_of_le hb hwM) (fun b hb _ => hBw4.block b hb)
        have hl1 := HBO.out.built.len.1
        have hl2 := HBO.out.built.len.2
        have hl3 := HBO.out.rlen
        have hl4 := HBO.out.klen
        have hR := Lib.hid (radd_c w4 M (fun b => b < M) Q mr ma kd rl rs ks ats r ap np cp hd4 HBO.out.built (by have := hmv.size; have := HMB.out; omega) (by omega) (by omega) hpv4)
        have hgc := HCS.out w4 hBw4
        have g0 := hgc 0 _ rfl
        have g1 := hgc 1 _ rfl
        have g2 := hgc 2 _ rfl
        have g3 := hgc 3 _ rfl
        rw [Nat.add_zero] at g0
        have hfree4 : ∀ b, MB Q mr ma b → role' b = .free := fun b hb => (hmv.block b (hd3.lt hb).2 (hfree b hb)).2
        have HF4 := Lib.hid hfree4
        have hp4 : PoolIn w4 M role' P M vr' va' lv' kd (addR rs ks r) (addK rs ks r) ((addK rs ks r).map fun k => k.pkg.name) := hp4
        have HP4 := Lib.hid hp4
        have HMV := Lib.hid hmv
        have HBW4 := Lib.hid hBw4
        have HDOC := Lib.hid hdoc
        have HFREE := Lib.hid hfree
        have HLO := Lib.hid hlo
        have HL := Lib.hid (And.intro hl1 (And.intro hl2 (And.intro hl3 hl4)))
        have HS := Lib.hid (And.intro hs3 (And.intro hs0 hwM))
        clear hA hfree4 hd3 hd4 hpv4 hgc hp4 hmv hBw4 hdoc hfree hlo hl1 hl2 hl3 hl4 hs3 hs0 hwM HLENT x0 x1 x2 x3
        go_wp2_with fail
        refine hR.out.mono ?_
        rintro e w5 ⟨rfl, mr', ma', hmm, hd5⟩
        have hd5 : MIn w5 M (fun b => b < M) Q mr' ma' kd (addL rl rs ks r) (addA rl rs ks ats r) := hd5
        obtain ⟨hp5, hf5⟩ := Both.radded HP4.out HF4.out hmm
        have hkeep : ∀ b, wr.heap.size ≤ b → b < w3.heap.size → w5.heap[b]? = w3.heap[b]? ∧ role' b = .free ∧ ¬ MB Q mr' ma' b := fun b h1 h2 => by
          have hr0 : role b = .free := by
            by_cases e : role b = .free
            · exact e
            · have := HPOOL.out.hi b e
              omega
          have hnm : ¬ MB Q mr ma b := fun e => by
            have := (HDOC.out.lt e).2
            omega
          obtain ⟨h3, h4⟩ := HMV.out.block b h2 hr0
          obtain ⟨h5, h6⟩ := hmm.block b (Nat.lt_of_lt_of_le h2 HMV.out.size) hnm
          exact ⟨h5.trans h3, h4, h6⟩
        obtain ⟨S, hS, hpa, hla⟩ := HOWN.out
        have hs23 := HB3.out.2.2.size
        have hpa5 : PkgsA w5 S r.pkgs a' := fun hne => by
          obtain ⟨b, off, e, hnS, hF, hi⟩ := hpa hne
          have k : w5.heap[b]? = w2.heap[b]? := ((hkeep b (hla b off e).1 (Nat.lt_of_lt_of_le hF.lt hs23)).1).trans (HB3.out.2.2.block b hF.lt)
          refine ⟨b, off, e, hnS, hF.keep k, fun i h => ?_⟩
          obtain ⟨v, vf, h1, h2⟩ := hi i h
          exact ⟨v, vf, h1.keep (fun _ h => h) (fun x hx _ => ((hkeep x (hS x hx).1 (Nat.lt_of_lt_of_le (hS x hx).2.lt hs23)).1).trans (HB3.out.2.2.block x (hS x hx).2.lt)), h2.keep k⟩
        have hSF : ∀ x, S x → Fr w5 x := fun x hx => (hS x hx).2.keep (((hkeep x (hS x hx).1 (Nat.lt_of_lt_of_le (hS x hx).2.lt hs23)).1).trans (HB3.out.2.2.block x (hS x hx).2.lt))
        have hSP := Lib.hid (spoilt_c r.pkgs r.name r.prio r.inst a' np c' S w5 HNP.out (by have := HNB.out; omega) hpa5 hSF)
        have hb5 : BoxN w5 w2.heap.size [.string r.name, .int .i64 r.prio, .bool r.inst, .slice a' np c'] 33 := HB3.out.2.1.to (hkeep _ HB2.out.size HB3.out.2.1.lt).1
        have x0 := hb5.cell (j := 0) rfl
        have x1 := hb5.cell (j := 1) rfl
        have x2 := hb5.cell (j := 2) rfl
        have x3 := hb5.cell (j := 3) rfl
        have HT0 : Hid (∀ b, (S b ∨ ∃ off, a' = some ⟨b, off, none⟩) → wr.heap.size ≤ b ∧ role' b = .free ∧ ¬ MB Q mr' ma' b) := Lib.hid fun b hb => by
          rcases hb with hb | ⟨off, e⟩
          · exact ⟨(hS b hb).1, (hkeep b (hS b hb).1 (Nat.lt_of_lt_of_le (hS b hb).2.lt hs23)).2⟩
          · exact ⟨(hla b off e).1, (hkeep b (hla b off e).1 (Nat.lt_of_lt_of_le (hla b off e).2 hs23)).2⟩
        have HB5 : Hid (Below w.heap.size w4 w5) := ⟨hmm.os, hmm.tape, hmm.output, hmm.size, fun b hb => (hmm.block b (by have := HBW4.out.size; omega) (fun e => by
            have := (HDOC.out.lt e).1
            have := HS.out.2.2
            omega)).1⟩
        have HP5 := Lib.hid hp5
        have HD5 := Lib.hid hd5
        have HF5 := Lib.hid hf5
        clear hR hp5 hd5 hf5 hkeep hpa5 hSF hb5 hpa hla hs23 g0 g1 g2 g3
        go_wp2_with fail
        refine hSP.out.mono ?_
        rintro e w6 ⟨rfl, hsp⟩
        have HNX : Hid (Both w6 M role' P M Q kd (addL rl rs ks r) (addR rs ks r) (addK rs ks r) (addA rl rs ks ats r)) := by
          have hl : (addR rs ks r).length ≤ 8 ∧ (addK rs ks r).length ≤ 200 := by
            unfold addR addK
            by_cases e : addErr rs ks r = 0
            · rw [if_pos e, if_pos e]
              have := addErr_zero e
              simp
              omega
            · rw [if_neg e, if_neg e]
              exact ⟨HL.out.2.2.1, HL.out.2.2.2⟩
          exact Both.spl HP5.out HD5.out HF5.out (HBO.out.built.next r) hl.1 hl.2 hsp (fun b hb => ⟨(HT0.out b hb).2.1, by have := (HT0.out b hb).1; have := HMB.out; omega⟩) (fun b hb => (HT0.out b hb).2.2)
        have HB6 : Hid (Below w.heap.size w w6) := by
          have h1 := HBW4.out
          have h2 := HB5.out
          refine (h1.trans h2).trans ⟨hsp.os, hsp.tape, hsp.output, hsp.size, fun b hb => hsp.block b (Nat.lt_of_lt_of_le hb (h1.trans h2).size) (fun e => ?_)⟩
          have := (HT0.out b e).1
          have := HS.out.2.1
          omega
        clear hsp
        go_wp2_with fail
        go_roundw
        case rel => exact ⟨i + 1, by go_num, by omega, HB6.out, HS.out.2.2, role', _, _, _, _, HNX.out⟩
        case measure => simp [intOf]; omega
      · have hi1 : ¬ (i : Int) < (n : Int) := by omega
        have HB0 := Lib.hid HT.out.1
        have hA1 := Lib.hid (alike_c HBO.out)
        go_wp2_with fail
        refine hA1.out.mono ?_
        rintro e w2 ⟨rfl, hb2⟩
        have HB2 := Lib.hid hb2
        have hA2 := Lib.hid (alike_c (HBO.out.below hb2))
        clear hA1 hb2
        go_wp2_with fail
        refine hA2.out.mono ?_
        rintro e w3 ⟨rfl, hb3⟩
        have HB3 : Hid (Below wr.heap.size wr w3) := below_tr HB2.out hb3
        clear hA2 hb3
        obtain ⟨ids, hids⟩ : ∃ ids, idsOf (ks.map fun k => k.pkg.name) nm = ids := ⟨_, rfl⟩
        have HIL : Hid (ids.length ≤ 200) := by
          rw [← hids]
          have h1 := idsOf_len (ks.map fun k => k.pkg.name) nm
          rw [List.length_map] at h1
          exact Nat.le_trans h1 HBO.out.klen
        have h13 := (HBO.out.below HB3.out).named nm hnm
        rw [hids] at h13
        replace h13 := Lib.hid h13
        go_wp2_with fail
        refine h13.out.mono ?_
        rintro e w4 ⟨⟨v4, rfl, hv4⟩, hb4⟩
        have HV4 := Lib.hid hv4
        have HB4 : Hid (Below wr.heap.size wr w4) := below_tr HB3.out hb4
        have h14 := (HBO.out.below HB4.out).rnamed nm
        rw [hids] at h14
        replace h14 := Lib.hid h14
        clear h13 hv4 hb4 hids
        go_wp2_with fail
        refine h14.out.mono ?_
        rintro e w5 ⟨⟨v5, rfl, hv5⟩, hb5⟩
        have HB5 : Hid (Below wr.heap.size wr w5) := below_tr HB4.out hb5
        have h12 := Lib.hid (sameI_eq ids v4 v5 w5 HIL.out (HV4.out.below hb5) hv5)
        clear h14 hv5 hb5
        go_wp2_with fail
        refine h12.out.mono ?_
        rintro e w6 ⟨rfl, hb6⟩
        have HB6 : Hid (Below wr.heap.size wr w6) := below_tr HB5.out hb6
        clear h12 hb6 HV4 HIL
        by_cases hid : 0 ≤ id ∧ id < (ks.length : Int)
        · obtain ⟨k, rfl⟩ : ∃ k : Nat, id = (k : Int) := ⟨id.toNat, by omega⟩
          have hkl : k < ks.length := by omega
          obtain ⟨vr, va, lv, hpool⟩ := (HBO.out.below HB6.out).pool
          have h15 := Lib.hid (packageF_c hpool HBO.out.klen hkl rfl rfl)
          clear hid hpool
          go_wp2_with fail
          refine h15.out.mono ?_
          rintro e w7 ⟨⟨xa, xc, xf, xn, xg, rfl, hpv⟩, hb7⟩
          have HB7 : Hid (Below wr.heap.size wr w7) := below_tr HB6.out hb7
          generalize ks[k].pkg = pk at hpv ⊢
          generalize ks[k].at_ = at_
          obtain ⟨w8, e8⟩ : ∃ w8, w7.alloc (.cells #[.string pk.name, .string pk.evr, .string pk.arch, .string pk.vendor, .slice (xa 0) (pk.n 0) (xc 0), .slice (xa 1) (pk.n 1) (xc 1), .slice (xa 2) (pk.n 2) (xc 2), .slice (xa 3) (pk.n 3) (xc 3), .slice (xa 4) (pk.n 4) (xc 4), .slice (xa 5) (pk.n 5) (xc 5), .slice (xa 6) (pk.n 6) (xc 6), .slice xf xn xg] 44) = w8 := ⟨_, rfl⟩
          have HB8 : Hid (Below wr.heap.size wr w8) := by
            rw [← e8]
            exact below_tr HB7.out (below1 _ _)
          have h16 := Lib.hid ((HBO.out.below HB8.out).has_yes hkl)
          clear h15 hpv hb7
          go_wp2_with fail
          refine h16.out.mono ?_
          rintro e w9 ⟨rfl, h9⟩
          subst h9
          clear h16
          go_wp2_with fail
          go_ret
          exact ⟨rfl, below_tr HB0.out HB8.out⟩
        · obtain ⟨vr, va, lv, hpool⟩ := (HBO.out.below HB6.out).pool
          have h15 := Lib.hid (package_no hpool id hid)
          have HID := Lib.hid hid
          clear hid hpool
          go_wp2_with fail
          refine h15.out.mono ?_
          rintro e w7 ⟨rfl, hb7⟩
          have HB7 : Hid (Below wr.heap.size wr w7) := below_tr HB6.out hb7
          clear h15
          go_upto_region 21 with fail
          obtain ⟨w8, e8⟩ : ∃ w8, w7.alloc (.cells #[.string ⟨#[]⟩, .string ⟨#[]⟩, .string ⟨#[]⟩, .string ⟨#[]⟩, .slice none 0 0, .slice none 0 0, .slice none 0 0, .slice none 0 0, .slice none 0 0, .slice none 0 0, .slice none 0 0, .slice none 0 0] 44) = w8 := ⟨_, rfl⟩
          have HB8 : Hid (Below wr.heap.size wr w8 ∧ BoxN w8 w7.heap.size [.string ⟨#[]⟩, .string ⟨#[]⟩, .string ⟨#[]⟩, .string ⟨#[]⟩, .slice none 0 0, .slice none 0 0, .slice none 0 0, .slice none 0 0, .slice none 0 0, .slice none 0 0, .slice none 0 0, .slice none 0 0] 44) := by
            rw [← e8]
            exact ⟨below_tr HB7.out (below1 _ _), boxN_alloc _ _ _⟩
          have h16 := Lib.hid ((HBO.out.below HB8.out.1).has_no HID.out)
          have x0 := HB8.out.2.cell (j := 0) rfl
          clear hb7
          go_wp2_with fail
          refine h16.out.mono ?_
          rintro e w9 ⟨rfl, h9⟩
          subst h9
          clear h16
          go_wp2_with fail
          go_ret
          exact ⟨rfl, below_tr HB0.out HB8.out.1⟩
  · have hk1 : (kd != 1) = true := by simp; intro e; exact hk (.inl e)
    have hk2 : (kd != 2) = true := by simp; intro e; exact hk (.inr e)
    have hN := Lib.hid (new_no kd hk1 hk2 w1)
    go_wp2_with fail
    refine hN.out.mono ?_
    rintro e w2 ⟨rfl, hw2⟩
    subst hw2
    have hR := Lib.hid (rnew_no kd hk1 hk2 w1)
    clear hN
    go_wp2_with fail
    refine hR.out.mono ?_
    rintro e w3 ⟨rfl, hw3⟩
    subst hw3
    clear hR
    go_wp2_with fail
    go_ret
    exact ⟨rfl, HB1.out⟩
end Go.Proofs.YtgeimldijagkkaaGreat
