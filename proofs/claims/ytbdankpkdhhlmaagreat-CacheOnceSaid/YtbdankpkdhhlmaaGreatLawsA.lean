/-
  Pools: the pool of repositories and the document's. Helper text; the conditions are those typed.
  A pool's bytes are read back. Helper text; the conditions are those typed.
  What all statements ask at their head: calls whose answers the document fixes. Helper text; the conditions are those typed.
  The walks of the laws: CacheNames, CacheNil. Helper text; the conditions are those typed.
-/
import Derived.Test.YtbdankpkdhhlmaaGreatCRound
import Derived.Test.YtbdankpkdhhlmaaGreatBothA
import Derived.Deep.Cut
namespace Go.Proofs.YtbdankpkdhhlmaaGreat
set_option linter.unusedVariables false
set_option linter.unusedSimpArgs false
open Go.RowKit Go.Maps

def kindP (kd : Int) : Int := if kd = 2 then 2 else 1
theorem kindP_ok (kd : Int) : kindP kd = 1 ∨ kindP kd = 2 := by
  unfold kindP
  split
  · exact .inr rfl
  · exact .inl rfl
/-- What adding builds. -/
structure PSt where
  rl : List RepoT
  rs : List RepoH
  ks : List KeptT
  ats : List (Nat × Nat)
def PSt.step (x : PSt) (r : RepoT) : PSt := ⟨addL x.rl x.rs x.ks r, addR x.rs x.ks r, addK x.rs x.ks r, addA x.rl x.rs x.ks x.ats r⟩
def poolsOf (l : List RepoT) : PSt := l.foldl PSt.step ⟨[], [], [], []⟩
theorem poolsOf_snoc (l : List RepoT) (r : RepoT) : poolsOf (l ++ [r]) = (poolsOf l).step r := by
  unfold poolsOf
  rw [List.foldl_append]
  rfl
theorem PSt.step_ok {x : PSt} (h : BuiltOK x.rl x.rs x.ks x.ats) (r : RepoT) : BuiltOK (x.step r).rl (x.step r).rs (x.step r).ks (x.step r).ats := by
  show BuiltOK (addL x.rl x.rs x.ks r) (addR x.rs x.ks r) (addK x.rs x.ks r) (addA x.rl x.rs x.ks x.ats r)
  unfold addL addR addK addA
  by_cases e : addErr x.rs x.ks r = 0
  · rw [if_pos e, if_pos e, if_pos e, if_pos e]
    exact h.add r e
  · rw [if_neg e, if_neg e, if_neg e, if_neg e]
    exact h
theorem foldl_ok : ∀ (l : List RepoT) (x : PSt), BuiltOK x.rl x.rs x.ks x.ats → BuiltOK (l.foldl PSt.step x).rl (l.foldl PSt.step x).rs (l.foldl PSt.step x).ks (l.foldl PSt.step x).ats
  | [], x, h => h
  | r :: l, x, h => foldl_ok l (x.step r) (PSt.step_ok h r)
theorem poolsOf_ok (l : List RepoT) : BuiltOK (poolsOf l).rl (poolsOf l).rs (poolsOf l).ks (poolsOf l).ats := foldl_ok l _ .nil
/-- Those that were taken are of those that came. -/
theorem foldl_sub : ∀ (l : List RepoT) (x : PSt), (l.foldl PSt.step x).rl.Sublist (x.rl ++ l)
  | [], x => by rw [List.append_nil]; exact List.Sublist.refl _
  | r :: l, x => by
    refine (foldl_sub l (x.step r)).trans ?_
    show (addL x.rl x.rs x.ks r ++ l).Sublist _
    unfold addL
    split
    · rw [List.append_assoc]
      exact List.Sublist.refl _
    · exact List.Sublist.append (List.Sublist.refl _) (List.sublist_cons_self r l)
theorem poolsOf_sub (l : List RepoT) : (poolsOf l).rl.Sublist l := by
  have h := foldl_sub l ⟨[], [], [], []⟩
  exact h
/-- The pool and the document's. -/
def PoolsPost (w : World) (kd : Int) (l : List RepoT) (e : Ending) (w' : World) : Prop :=
  ∃ B role P M Q, e = .returned (.tuple #[.pointer (some ⟨P, 0, none⟩), .pointer (some ⟨Q, 0, none⟩)]) ∧ w.heap.size ≤ B ∧ Below w.heap.size w w' ∧ Both w' B role P M Q (kindP kd) (poolsOf l).rl (poolsOf l).rs (poolsOf l).ks (poolsOf l).ats

set_option maxHeartbeats 4000000 in
set_option maxRecDepth 100000 in
theorem pools_c (kd : Int) (l : List RepoT) (a : Option Addr) (n c : Nat) (w : World) (hl : ReposV w (· < w.heap.size) l (.slice a n c)) :
    Calls Tryz.prog 13 #[.int .i64 kd, .slice a n c] w (PoolsPost w kd l) := by
  obtain ⟨a2, c2, he, hnb, hin⟩ := hl
  injection he with h1 h2 h3
  subst h1 h3
  have HN := Lib.hid h2
  rw [← h2] at hnb
  have HIN := Lib.hid hin
  clear hin h2
  obtain ⟨POST, hPOST⟩ : ∃ POST, PoolsPost w kd l = POST := ⟨_, rfl⟩
  rw [hPOST]
  have HPO := Lib.hid hPOST
  obtain ⟨st, hst⟩ : ∃ st, poolsOf l = st := ⟨_, rfl⟩
  have HST := Lib.hid hst
  clear hst hPOST
  have hcs : (kd = 2 ∧ Hid (kindP kd = 2)) ∨ (¬ kd = 2 ∧ Hid (kindP kd = 1)) := by
    unfold kindP
    by_cases e : kd = 2
    · exact .inl ⟨e, if_pos e⟩
    · exact .inr ⟨e, if_neg e⟩
  obtain ⟨kp, hkp⟩ : ∃ kp, kindP kd = kp := ⟨_, rfl⟩
  rw [hkp] at hcs
  have HKP := Lib.hid hkp
  clear hkp
  go_enter Tryz.func13, Tryz.ntmps13
  rcases hcs with ⟨e1, HK⟩ | ⟨e1, HK⟩
  all_goals
    go_wp2_with fail
    refine (new_c _ (by decide) w.heap.size w (Nat.le_refl _)).mono ?_
    rintro e w2 ⟨rfl, hb2, hp2⟩
    have HB2 := Lib.hid hb2
    have HP2 := Lib.hid hp2
    clear hb2 hp2
    go_wp2_with fail
    refine (rnew_c _ (by decide) w.heap.size w2 HB2.out.size).mono ?_
    rintro e w3 ⟨rfl, hb3, hm3⟩
    have HB3 := Lib.hid hb3
    have HM3 := Lib.hid hm3
    clear hb3 hm3
    have H0 : Hid (∃ role, Both w3 w.heap.size role (w.heap.size + 1) w.heap.size w2.heap.size kp (poolsOf (l.take 0)).rl (poolsOf (l.take 0)).rs (poolsOf (l.take 0)).ks (poolsOf (l.take 0)).ats) := by
      rw [HK.out]
      refine ⟨_, ⟨_, _, _, HP2.out.below HB3.out⟩, ⟨_, _, HM3.out, fun b hb => ?_⟩, .nil, by show (0 : Nat) ≤ 8; decide, by show (0 : Nat) ≤ 200; decide⟩
      have hP := HP2.out.box.lt
      rcases hb with rfl | hb | hb
      · show (if w2.heap.size = w.heap.size then _ else if w2.heap.size = w.heap.size + 1 then _ else Role.free) = _
        rw [if_neg (by omega), if_neg (by omega)]
      · cases hb
      · cases hb
    have HB : Hid (Below w.heap.size w w3) := below_tr HB2.out HB3.out
    generalize w.heap.size + 1 = P at H0 ⊢
    generalize w2.heap.size = Q at H0 ⊢
    clear HB2 HB3 HP2 HM3 HK
    clear w2
    go_wp2_with fail
    go_loopw [10] (fun vi wr => ∃ i : Nat, vi = .int .i64 i ∧ i ≤ n ∧ Hid (Below w.heap.size w wr ∧ ∃ role, Both wr w.heap.size role P w.heap.size Q kp (poolsOf (l.take i)).rl (poolsOf (l.take i)).rs (poolsOf (l.take i)).ks (poolsOf (l.take i)).ats)) (fun vi _ => n - (intOf vi).toNat)
    case atStart => exact ⟨0, rfl, Nat.zero_le _, HB.out, H0.out⟩
    case round =>
      clear H0 HB
      obtain ⟨i, rfl, hin, HT⟩ := hrel
      obtain ⟨role, hboth⟩ := HT.out.2
      have HBO := Lib.hid hboth
      clear hboth
      by_cases hlt : i < n
      · have hi1 : (i : Int) < (n : Int) := by omega
        have hil : i < l.length := by have := HN.out; omega
        obtain ⟨b, off, rfl, hSb, hr⟩ := HIN.out (by intro e; rw [e] at hil; exact absurd hil (Nat.not_lt_zero _))
        obtain ⟨ap, np, cp, hpv, hcs⟩ := hr i hil
        obtain ⟨r, hre⟩ : ∃ r, l[i] = r := ⟨_, rfl⟩
        have HRE : Hid (l.take (i + 1) = l.take i ++ [r]) := Lib.hid (by rw [List.take_add_one, List.getElem?_eq_getElem hil, hre]; rfl)
        rw [hre] at hpv hcs
        have HPV := Lib.hid hpv
        have HCS : Hid (∀ W : World, Below w.heap.size w W → CellsAt W b (off + i * 4) [.string r.name, .int .i64 r.prio, .bool r.inst, .slice ap np cp]) := fun W hW => hcs.keep (hW.block b hSb)
        have HA : Hid (∀ W : World, Below w.heap.size w W → W.cell? ⟨b, off + i * 4, none⟩ = some (.string r.name) ∧ W.cell? ⟨b, off + i * 4 + 1, none⟩ = some (.int .i64 r.prio) ∧ W.cell? ⟨b, off + i * 4 + 2, none⟩ = some (.bool r.inst) ∧ W.cell? ⟨b, off + i * 4 + 3, none⟩ = some (.slice ap np cp)) := Lib.hid fun W hW => by
          have hgc := HCS.out W hW
          exact ⟨hgc 0 _ rfl, hgc 1 _ rfl, hgc 2 _ rfl, hgc 3 _ rfl⟩
        obtain ⟨x, hx⟩ : ∃ x, poolsOf (l.take i) = x := ⟨_, rfl⟩
        rw [hx] at HBO
        have HX := Lib.hid hx
        clear hr hpv hcs hre hSb hx
        go_upto_region 10 with fail
        refine wp_region_ord (fun W => Below w.heap.size w W) 99 [(true, 0), (true, 1), (true, 2), (true, 3), (true, 4), (true, 6), (true, 7), (true, 8), (true, 9), (true, 10), (false, 5), (false, 11), (false, 12)] (by kernel_rfl) (by kernel_rfl) (fun _ _ d _ _ h => by cases d <;> exact h) (below_dr1 HT.out.1) ?_
        intro wd hwd hS
        simp only [ordOps, List.map_cons, List.map_nil, Array.getD_eq_getD_getElem?, List.getElem?_toArray, List.getElem?_cons_succ, List.getElem?_cons_zero, Option.getD_some]
        iterate 10 (refine wpOrd_q rfl _ (fun w' hS' K hK => (by obtain ⟨x0, x1, x2, x3⟩ := HA.out w' hS'; clear hS'; go_simp; exact hK)) (fun K hK => ?_); go_simp; refine hK _ ?_; clear hK K)
        have HBd : Hid (Below wr.heap.size wr wd) := Lib.hid (by rw [hwd.out]; exact below_dr1 (Below.refl _ _))
        have HBOd := Lib.hid (HBO.out.below HBd.out)
        have HTd : Hid (Below w.heap.size w wd) := Lib.hid (below_tr HT.out.1 HBd.out)
        obtain ⟨vr, va, lv, hpool⟩ := HBOd.out.pool
        have HPOOL := Lib.hid hpool
        have HMB : Hid (w.heap.size ≤ wd.heap.size) := Lib.hid HTd.out.size
        have HLO : Hid (∀ b, b < w.heap.size → role b = .free) := Lib.hid fun b hb => by
          by_cases e : role b = .free
          · exact e
          · have := HPOOL.out.lo b e
            omega
        have hA := Lib.hid (add_c w.heap.size role P w.heap.size vr va lv kp x.rs x.ks r ap np cp (· < w.heap.size) wd hpool HMB.out HBO.out.rlen HBO.out.klen (HPV.out.keep (fun b hb => hb) (fun b hb _ => HTd.out.block b hb)) (fun b hb => ⟨HLO.out b hb, Nat.lt_of_lt_of_le hb HMB.out⟩))
        clear hpool hS hwd
        refine wpOrd_l rfl (fun K hK => ?_)
        go_simp
        refine hA.out.mono ?_
        rintro e w4 ⟨rfl, role', vr', va', lv', hmv, hp4⟩
        obtain ⟨mr, ma, hdoc, hfree⟩ := HBOd.out.doc
        have hd4 : MIn w4 w.heap.size (fun b => b < w.heap.size) Q mr ma kp x.rl x.ats := hdoc.keep (fun b hb => (hmv.block b (hdoc.lt hb).2 (hfree b hb)).1) (fun b hb hl => (hmv.block b hl (HLO.out b hb)).1)
        have HB4 : Hid (Below w.heap.size w w4) := Lib.hid (HTd.out.trans ⟨hmv.os, hmv.tape, hmv.output, hmv.size, fun b hb => (hmv.block b (Nat.lt_of_lt_of_le hb HMB.out) (HLO.out b hb)).1⟩)
        have HF4 : Hid (∀ b, MB Q mr ma b → role' b = .free) := Lib.hid fun b hb => (hmv.block b (hdoc.lt hb).2 (hfree b hb)).2
        have HMW : Hid (wd.heap.size ≤ w4.heap.size) := Lib.hid hmv.size
        have HDLT : Hid (∀ b, MB Q mr ma b → w.heap.size ≤ b) := Lib.hid fun b hb => (hdoc.lt hb).1
        have hR := Lib.hid (radd_c w4 w.heap.size (fun b => b < w.heap.size) Q mr ma kp x.rl x.rs x.ks x.ats r ap np cp hd4 HBO.out.built HB4.out.size (by have := HBO.out.built.len.1; have := HBO.out.rlen; omega) (by have := HBO.out.built.len.2; have := HBO.out.klen; omega) (HPV.out.keep (fun b hb => hb) (fun b hb _ => HB4.out.block b hb)))
        have HP4 : Hid (PoolIn w4 w.heap.size role' P w.heap.size vr' va' lv' kp (addR x.rs x.ks r) (addK x.rs x.ks r) ((addK x.rs x.ks r).map fun k => k.pkg.name)) := Lib.hid hp4
        clear hA hmv hdoc hfree hd4 hp4
        go_simp
        refine hK _ _ ⟨fun _ => HB4.out, ?_⟩
        clear hK K
        refine wpOrd_l rfl (fun K hK => ?_)
        go_simp
        refine hR.out.mono ?_
        rintro e w5 ⟨rfl, mr', ma', hmm, hd5⟩
        have hd5 : MIn w5 w.heap.size (fun b => b < w.heap.size) Q mr' ma' kp (addL x.rl x.rs x.ks r) (addA x.rl x.rs x.ks x.ats r) := hd5
        obtain ⟨hp5, hf5⟩ := Both.radded HP4.out HF4.out hmm
        have HB5 : Hid (Below w.heap.size w w5) := Lib.hid (HB4.out.trans ⟨hmm.os, hmm.tape, hmm.output, hmm.size, fun b hb => (hmm.block b (Nat.lt_of_lt_of_le hb HB4.out.size) (fun e => by
            have := HDLT.out b e
            omega)).1⟩)
        have HNX : Hid (Both w5 w.heap.size role' P w.heap.size Q kp (poolsOf (l.take (i + 1))).rl (poolsOf (l.take (i + 1))).rs (poolsOf (l.take (i + 1))).ks (poolsOf (l.take (i + 1))).ats) := Lib.hid <| by
          rw [HRE.out, poolsOf_snoc, HX.out]
          have hl : (addR x.rs x.ks r).length ≤ 8 ∧ (addK x.rs x.ks r).length ≤ 200 := by
            unfold addR addK
            by_cases e : addErr x.rs x.ks r = 0
            · rw [if_pos e, if_pos e]
              have := addErr_zero e
              simp
              omega
            · rw [if_neg e, if_neg e]
              exact ⟨HBO.out.rlen, HBO.out.klen⟩
          exact ⟨⟨_, _, _, hp5⟩, ⟨_, _, hd5, hf5⟩, HBO.out.built.next r, hl.1, hl.2⟩
        clear hR hp5 hd5 hf5 hmm
        go_simp
        refine hK _ _ ⟨fun _ => HB5.out, ?_⟩
        clear hK K
        generalize addErr x.rs x.ks r = er
        refine wpOrd_l rfl (fun K hK => ?_)
        go_simp
        refine hK _ _ ⟨fun _ => HB5.out, ?_⟩
        clear hK K
        refine wpOrd_nil ?_
        go_wp2_with fail
        go_roundw
        case rel => exact ⟨i + 1, by go_num, by omega, HB5.out, role', HNX.out⟩
        case measure => simp [intOf]; omega
      · have hi1 : ¬ (i : Int) < (n : Int) := by omega
        have he : i = n := by omega
        have HFIN : Hid (POST (.returned (.tuple #[.pointer (some ⟨P, 0, none⟩), .pointer (some ⟨Q, 0, none⟩)])) wr) := Lib.hid <| by
          have h1 := HBO.out
          have h2 := HN.out
          rw [he, List.take_of_length_le (by omega)] at h1
          rw [← HPO.out]
          refine ⟨w.heap.size, role, P, w.heap.size, Q, rfl, Nat.le_refl _, HT.out.1, ?_⟩
          rw [HKP.out]
          exact h1
        clear HBO
        go_wp2_with fail
        exact HFIN.out
end Go.Proofs.YtbdankpkdhhlmaaGreat
namespace Go.Proofs.YtbdankpkdhhlmaaGreat
set_option linter.unusedVariables false
set_option linter.unusedSimpArgs false
open Go.RowKit Go.Maps

/-- Repositories that can be laid. -/
structure CanL (rl : List RepoT) : Prop where
  prio : ∀ r ∈ rl, -9223372036854775808 ≤ r.prio ∧ r.prio ≤ 9223372036854775807
  toks : (rl.flatMap tokRepoT).length + 1 ≤ 8388608
theorem BuiltOK.canW {rl : List RepoT} {rs : List RepoH} {ks : List KeptT} {ats : List (Nat × Nat)} (h : BuiltOK rl rs ks ats) (hc : CanL rl) {kd : Int} (hk : kd = 1 ∨ kd = 2) : CanW kd rs ks :=
  h.has.can hk hc.prio (by have := hc.toks; omega)
theorem BuiltOK.len {rl : List RepoT} {rs : List RepoH} {ks : List KeptT} {ats : List (Nat × Nat)} (h : BuiltOK rl rs ks ats) (hc : CanL rl) {kd : Nat} (hk : kd = 1 ∨ kd = 2) : (encB kd (tokPool rs ks)).length ≤ 1073741824 := by
  have h1 := hc.toks
  have h2 := tokPool_of h.has
  have h3 : (tokPool rs ks).length ≤ 8388608 := by rw [h2, List.length_cons]; exact h1
  have h4 := encB_len (kd := kd) (h.has.small hc.prio (by omega)).1 (by omega) (by omega)
  omega
/-- What is read is what was laid. -/
theorem read_same {rl : List RepoT} {rs : List RepoH} {ks : List KeptT} {ats : List (Nat × Nat)} (h : BuiltOK rl rs ks ats) (hc : CanL rl) {kd : Nat} (hk : kd = 1 ∨ kd = 2) (w : World) (a : Option Addr) (c : Nat) (hby : BytesAt w a (encB kd (tokPool rs ks))) (hlb : ∀ b off s, a = some ⟨b, off, s⟩ → b < w.heap.size) (hcc : (encB kd (tokPool rs ks)).length ≤ c) {n : Nat} (hn : (encB kd (tokPool rs ks)).length = n) :
    Calls Tryz.prog 11 #[.slice a n c] w fun e w' => (∃ role P M vr va lv, e = .returned (.tuple #[.pointer (some ⟨P, 0, none⟩), .int .i64 0]) ∧ PoolIn w' w.heap.size role P M vr va lv (kd : Int) rs ks (ks.map fun k => k.pkg.name)) ∧ Below w.heap.size w w' := by
  have hback := read_back h.has hk hc.prio (by have := hc.toks; omega)
  have hl := h.len hc hk
  refine (read_c w a c _ hby hlb hcc hl (fun kd rl rs ks ats => can_read hl kd rl rs ks ats) hn).mono ?_
  rintro e w' ⟨hb, h1⟩
  refine ⟨?_, hb⟩
  rcases h1 with ⟨_, hno⟩ | ⟨kd2, rl2, rs2, ks2, ats2, role, P, M, vr, va, lv, he, hall, hok, _, _, hp⟩
  · exact absurd rfl (hno kd rl rs ks ats hback h)
  · rw [hback] at hall
    injection hall with hall
    injection hall with h2 h3
    subst h2 h3
    have h4 := h.det.2 _ _ _ hok
    have h5 : rs2 = rs := hok.det.1.trans h.det.1.symm
    subst h4 h5
    exact ⟨role, P, M, vr, va, lv, he, hp⟩
theorem BytesAt.blk {w : World} {a : Option Addr} {l : List UInt8} (h : BytesAt w a l) (hl : l ≠ []) : ∀ b off s, a = some ⟨b, off, s⟩ → b < w.heap.size := by
  intro b off s e
  rcases h.lt with h0 | ⟨b2, off2, e2, hlt⟩
  · exact absurd h0 hl
  · rw [e] at e2
    injection e2 with e2
    injection e2 with e2 _ _
    rw [e2]
    exact hlt
theorem encB_ne (kd : Nat) (ts : List Tok) : encB kd ts ≠ [] := by
  unfold encB magicB
  simp
end Go.Proofs.YtbdankpkdhhlmaaGreat
namespace Go.Proofs.YtbdankpkdhhlmaaGreat
set_option linter.unusedVariables false
set_option linter.unusedSimpArgs false
open Go.RowKit Go.Maps

def litA : PkgT := ⟨⟨#[97]⟩, ⟨#[49, 45, 49]⟩, ⟨#[110, 111, 97, 114, 99, 104]⟩, ⟨#[]⟩, fun _ => 0, fun _ i => i.elim0, []⟩
theorem chkA : pkgCheck litA = 0 := by kernel_rfl
theorem named_main : nameB ⟨#[109, 97, 105, 110]⟩ = true := by kernel_rfl
theorem deps_none (w : World) (S : Nat → Prop) (args : Fin 0 → DepT) : DepsV w S 0 args (.slice none 0 0) := ⟨none, 0, rfl, by decide, fun h => absurd rfl h⟩
theorem strs_none (w : World) (S : Nat → Prop) : StrsV w S [] (.slice none 0 0) := ⟨none, 0, rfl, by simp, by decide, fun h => absurd rfl h⟩
theorem litA_v (w : World) (S : Nat → Prop) : PkgV w S litA (fun _ => .slice none 0 0) (.slice none 0 0) := ⟨by decide, by decide, by decide, by decide, fun _ => deps_none _ _ _, strs_none _ _⟩
def repoM : RepoT := ⟨⟨#[109, 97, 105, 110]⟩, 0, false, [litA]⟩
theorem addM : addErr [] [] repoM = 0 := by
  unfold addErr
  rw [if_neg (fun h => h.elim (fun h => by have h2 := named_main.symm.trans h; cases h2) (fun h => by cases h)), if_neg (by decide), if_neg (by decide)]
  show firstBad [litA] = 0
  unfold firstBad
  rw [if_neg (fun h => h chkA)]
  rfl
theorem poolsM : poolsOf [repoM] = ⟨[repoM], [⟨⟨#[109, 97, 105, 110]⟩, 0, false⟩], [⟨litA, 0⟩], [(0, 0)]⟩ := by
  show PSt.step ⟨[], [], [], []⟩ repoM = _
  unfold PSt.step addL addR addK addA
  simp only [addM, if_true]
  rfl
theorem canM : CanL [repoM] := ⟨by intro r hr; rw [List.mem_singleton] at hr; subst hr; decide, by decide⟩

set_option maxHeartbeats 8000000 in
set_option maxRecDepth 100000 in
/-- awake. -/
theorem awake_c (w : World) : Calls Tryz.prog 10 #[] w fun e w' => e = .returned (.bool true) ∧ Below w.heap.size w w' := by
  go_enter Tryz.func10, Tryz.ntmps10
  go_upto_region 2 with fail
  obtain ⟨w2, e2⟩ : ∃ w2, w.alloc (.cells #[.string ⟨#[97]⟩, .string ⟨#[49, 45, 49]⟩, .string ⟨#[110, 111, 97, 114, 99, 104]⟩, .string ⟨#[]⟩, .slice none 0 0, .slice none 0 0, .slice none 0 0, .slice none 0 0, .slice none 0 0, .slice none 0 0, .slice none 0 0, .slice none 0 0] 45) = w2 := ⟨_, rfl⟩
  have HA2 : Hid (Below w.heap.size w w2 ∧ BoxN w2 w.heap.size [.string ⟨#[97]⟩, .string ⟨#[49, 45, 49]⟩, .string ⟨#[110, 111, 97, 114, 99, 104]⟩, .string ⟨#[]⟩, .slice none 0 0, .slice none 0 0, .slice none 0 0, .slice none 0 0, .slice none 0 0, .slice none 0 0, .slice none 0 0, .slice none 0 0] 45 ∧ w2.heap.size = w.heap.size + 1) := by
    rw [← e2]
    exact ⟨below1 _ _, boxN_alloc _ _ _, by simp⟩
  have p0 := HA2.out.2.1.cell (j := 0) rfl
  have p1 := HA2.out.2.1.cell (j := 1) rfl
  have p2 := HA2.out.2.1.cell (j := 2) rfl
  have p3 := HA2.out.2.1.cell (j := 3) rfl
  have p4 := HA2.out.2.1.cell (j := 4) rfl
  have p5 := HA2.out.2.1.cell (j := 5) rfl
  have p6 := HA2.out.2.1.cell (j := 6) rfl
  have p7 := HA2.out.2.1.cell (j := 7) rfl
  have p8 := HA2.out.2.1.cell (j := 8) rfl
  have p9 := HA2.out.2.1.cell (j := 9) rfl
  have p10 := HA2.out.2.1.cell (j := 10) rfl
  have p11 := HA2.out.2.1.cell (j := 11) rfl
  obtain ⟨w3, e3⟩ : ∃ w3, w2.alloc (.cells #[.string ⟨#[97]⟩, .string ⟨#[49, 45, 49]⟩, .string ⟨#[110, 111, 97, 114, 99, 104]⟩, .string ⟨#[]⟩, .slice none 0 0, .slice none 0 0, .slice none 0 0, .slice none 0 0, .slice none 0 0, .slice none 0 0, .slice none 0 0, .slice none 0 0] 45) = w3 := ⟨_, rfl⟩
  have HB3 : Hid (Below w2.heap.size w2 w3 ∧ BoxN w3 w2.heap.size [.string ⟨#[97]⟩, .string ⟨#[49, 45, 49]⟩, .string ⟨#[110, 111, 97, 114, 99, 104]⟩, .string ⟨#[]⟩, .slice none 0 0, .slice none 0 0, .slice none 0 0, .slice none 0 0, .slice none 0 0, .slice none 0 0, .slice none 0 0, .slice none 0 0] 45 ∧ w3.heap.size = w2.heap.size + 1) := by
    rw [← e3]
    exact ⟨below1 _ _, boxN_alloc _ _ _, by simp⟩
  obtain ⟨w4, e4⟩ : ∃ w4, w3.alloc (.cells #[.string ⟨#[109, 97, 105, 110]⟩, .int .i64 0, .bool false, .slice (some ⟨w2.heap.size, 0, none⟩) 1 1] 40) = w4 := ⟨_, rfl⟩
  have HB4 : Hid (Below w3.heap.size w3 w4 ∧ BoxN w4 w3.heap.size [.string ⟨#[109, 97, 105, 110]⟩, .int .i64 0, .bool false, .slice (some ⟨w2.heap.size, 0, none⟩) 1 1] 40 ∧ w4.heap.size = w3.heap.size + 1) := by
    rw [← e4]
    exact ⟨below1 _ _, boxN_alloc _ _ _, by simp⟩
  have HRV : Hid (ReposV w4 (· < w4.heap.size) [repoM] (.slice (some ⟨w3.heap.size, 0, none⟩) 1 1)) := Lib.hid <| by
    refine ⟨_, _, rfl, by decide, fun _ => ⟨w3.heap.size, 0, rfl, by have := HB4.out.2.2; show w3.heap.size < w4.heap.size; omega, fun i hi => ?_⟩⟩
    match i, hi with
    | 0, _ =>
      refine ⟨some ⟨w2.heap.size, 0, none⟩, 1, 1, ⟨_, _, rfl, by show 1 * 256 ≤ 140737488355328; decide, fun _ => ⟨w2.heap.size, 0, rfl, by have := HB4.out.2.2; have := HB3.out.2.2; show w2.heap.size < w4.heap.size; omega, fun i hi => ?_⟩⟩, fun j v hj => HB4.out.2.1.cell (j := 0 + 0 * 4 + j) (by
        have hj12 : j < 4 := (List.getElem?_eq_some_iff.1 hj).1
        rw [← hj]
        match j, hj12 with
        | 0, _ => rfl
        | 1, _ => rfl
        | 2, _ => rfl
        | 3, _ => rfl)⟩
      match i, hi with
      | 0, _ => exact ⟨_, _, litA_v _ _, fun j v hj => (HB3.out.2.1.below HB4.out.1).cell (j := 0 + 0 * 12 + j) (by
          have hj12 : j < 12 := (List.getElem?_eq_some_iff.1 hj).1
          rw [← hj]
          match j, hj12 with
          | 0, _ => rfl
          | 1, _ => rfl
          | 2, _ => rfl
          | 3, _ => rfl
          | 4, _ => rfl
          | 5, _ => rfl
          | 6, _ => rfl
          | 7, _ => rfl
          | 8, _ => rfl
          | 9, _ => rfl
          | 10, _ => rfl
          | 11, _ => rfl)⟩
      | i + 1, h => exact absurd h (by show ¬ i + 1 < 1; omega)
    | i + 1, h => exact absurd h (by show ¬ i + 1 < 1; omega)
  have HBW4 : Hid (Below w.heap.size w w4) := Lib.hid (below_tr HA2.out.1 (below_tr HB3.out.1 HB4.out.1))
  have hP := Lib.hid (pools_c 1 [repoM] (some ⟨w3.heap.size, 0, none⟩) 1 1 w4 HRV.out)
  go_wp2_with fail
  refine hP.out.mono ?_
  rintro e w5 ⟨B, role, P, M, Q, rfl, hBw, hb5, hboth⟩
  rw [poolsM] at hboth
  obtain ⟨vr, va, lv, hpool⟩ := hboth.pool
  have hOK : BuiltOK [repoM] [⟨⟨#[109, 97, 105, 110]⟩, 0, false⟩] [⟨litA, 0⟩] [(0, 0)] := by
    have := poolsOf_ok [repoM]
    rw [poolsM] at this
    exact this
  have HOK := Lib.hid hOK
  have HPOOL := Lib.hid hpool
  have HB5 : Hid (Below w.heap.size w w5) := Lib.hid (below_tr HBW4.out hb5)
  clear hP e2 e3 e4 p0 p1 p2 p3 p4 p5 p6 p7 p8 p9 p10 p11 HRV HB4 HB3 HA2 HBW4 hb5 hboth hpool hOK hBw
  go_wp2_with fail
  refine (write_c HPOOL.out (HOK.out.canW canM (.inl rfl))).mono ?_
  rintro e w6 ⟨v, rfl, hv⟩
  have hb6 := hv.2
  obtain ⟨a6, c6, rfl, hby6, hc6, _⟩ := hv.slice2
  have hek : encB (kindP 1).toNat (tokPool [⟨⟨#[109, 97, 105, 110]⟩, 0, false⟩] [⟨litA, 0⟩]) = encB 1 (tokPool [⟨⟨#[109, 97, 105, 110]⟩, 0, false⟩] [⟨litA, 0⟩]) := rfl
  rw [hek] at hby6 hc6 ⊢
  obtain ⟨m, hm⟩ : ∃ m, (encB 1 (tokPool [⟨⟨#[109, 97, 105, 110]⟩, 0, false⟩] [⟨litA, 0⟩])).length = m := ⟨_, rfl⟩
  have hm0 : 0 < m := by rw [← hm]; exact List.length_pos_iff.2 (encB_ne _ _)
  have hR := Lib.hid (read_same HOK.out canM (.inl rfl) w6 a6 c6 hby6 (hby6.blk (encB_ne _ _)) hc6 hm)
  rw [hm]
  have hm1 : ¬ (m : Int) = 0 := by omega
  have HB6 : Hid (Below w.heap.size w w6) := Lib.hid (below_tr HB5.out hb6)
  clear hby6 hc6 hm hm0 hek hv hb6
  go_wp2_with fail
  refine hR.out.mono ?_
  rintro e w7 ⟨⟨role7, P7, M7, vr7, va7, lv7, rfl, hp7⟩, hb7⟩
  have HP7 := Lib.hid hp7
  have HB7 : Hid (Below w.heap.size w w7) := Lib.hid (below_tr HB6.out hb7)
  clear hR hp7 hb7
  go_wp2_with fail
  have hpk := package_c HP7.out (by decide) (i := 0) (by decide) (pk := litA) rfl (at_ := 0) rfl
  refine hpk.mono ?_
  clear hpk
  rintro e w8 ⟨⟨xa, xc, xf, xn, xg, rfl, hpv⟩, hb8⟩
  have HB8 : Hid (Below w.heap.size w w8) := Lib.hid (below_tr HB7.out hb8)
  have HP8 := Lib.hid (HP7.out.below hb8)
  clear hpv hb8
  rw [show litA.name = ⟨#[97]⟩ from rfl, show litA.evr = ⟨#[49, 45, 49]⟩ from rfl, show litA.arch = ⟨#[110, 111, 97, 114, 99, 104]⟩ from rfl, show litA.vendor = ⟨#[]⟩ from rfl]
  generalize litA.n 0 = n0
  generalize litA.n 1 = n1
  generalize litA.n 2 = n2
  generalize litA.n 3 = n3
  generalize litA.n 4 = n4
  generalize litA.n 5 = n5
  generalize litA.n 6 = n6
  go_upto_region 10 with fail
  obtain ⟨w9, e9⟩ : ∃ w9, w8.alloc (.cells #[.string ⟨#[97]⟩, .string ⟨#[49, 45, 49]⟩, .string ⟨#[110, 111, 97, 114, 99, 104]⟩, .string ⟨#[]⟩, .slice (xa 0) n0 (xc 0), .slice (xa 1) n1 (xc 1), .slice (xa 2) n2 (xc 2), .slice (xa 3) n3 (xc 3), .slice (xa 4) n4 (xc 4), .slice (xa 5) n5 (xc 5), .slice (xa 6) n6 (xc 6), .slice xf xn xg] 45) = w9 := ⟨_, rfl⟩
  have HB9 : Hid (Below w8.heap.size w8 w9) := Lib.hid (by rw [← e9]; exact below1 _ _)
  have hbx : BoxN w9 w8.heap.size [.string ⟨#[97]⟩, .string ⟨#[49, 45, 49]⟩, .string ⟨#[110, 111, 97, 114, 99, 104]⟩, .string ⟨#[]⟩, .slice (xa 0) n0 (xc 0), .slice (xa 1) n1 (xc 1), .slice (xa 2) n2 (xc 2), .slice (xa 3) n3 (xc 3), .slice (xa 4) n4 (xc 4), .slice (xa 5) n5 (xc 5), .slice (xa 6) n6 (xc 6), .slice xf xn xg] 45 := by
    rw [← e9]
    exact boxN_alloc _ _ _
  have c0 := hbx.cell (j := 0) rfl
  have hL := Lib.hid (len_c (HP8.out.below HB9.out))
  try rw [e9]
  go_wp2_with fail
  refine hL.out.mono ?_
  rintro e w10 ⟨rfl, hw⟩
  subst hw
  go_wp2_with fail
  go_ret
  exact ⟨rfl, below_tr HB8.out HB9.out⟩
end Go.Proofs.YtbdankpkdhhlmaaGreat
namespace Go.Proofs.YtbdankpkdhhlmaaGreat
set_option linter.unusedVariables false
set_option linter.unusedSimpArgs false
open Go.RowKit Go.Maps

theorem cacheNames_walk (w : World) : Calls Tryz.prog 3 #[] w fun e w' => e = .returned (.bool true) ∧ Below w.heap.size w w' := by
  go_enter Tryz.func3, Tryz.ntmps3
  go_wp2_with fail
  refine (awake_c w).mono ?_
  rintro e w1 ⟨rfl, hb1⟩
  replace hb1 := Lib.hid hb1
  go_wp2_with fail
  go_ret
  exact ⟨rfl, hb1.out⟩
set_option maxHeartbeats 2000000 in
set_option maxRecDepth 100000 in
theorem write_nil (w : World) : Calls Tryz.prog 12 #[.pointer none] w fun e w' => e = .returned (.tuple #[.slice none 0 0, .int .i64 1]) ∧ w = w' := by
  go_enter Tryz.func12, Tryz.ntmps12
  go_wp2_with fail
  refine bodyPost_ret (v := .tuple #[.slice none 0 0, .int .i64 1]) (by simp [results, Tryz.results12, go_sem]) rfl ?_
  exact ⟨rfl, rfl⟩
theorem read_nil (w : World) : Calls Tryz.prog 11 #[.slice none 0 0] w fun e w' => e = .returned (.tuple #[.pointer none, .int .i64 90]) ∧ Below w.heap.size w w' := by
  have hno : rdAll [] = none := by rfl
  refine (read_c w none 0 [] (.inl rfl) (fun b off s e => by cases e) (Nat.le_refl _) (by decide) (fun kd rl rs ks ats h => by rw [hno] at h; cases h) (n := 0) rfl).mono ?_
  rintro e w' ⟨hb, h | ⟨kd, rl, rs, ks, ats, role, P, M, vr, va, lv, _, h, _⟩⟩
  · exact ⟨h.1, hb⟩
  · rw [hno] at h
    cases h
theorem cacheNil_walk (w : World) : Calls Tryz.prog 7 #[] w fun e w' => e = .returned (.bool true) ∧ Below w.heap.size w w' := by
  go_enter Tryz.func7, Tryz.ntmps7
  go_wp2_with fail
  refine (awake_c w).mono ?_
  rintro e w1 ⟨rfl, hb1⟩
  replace hb1 := Lib.hid hb1
  go_wp2_with fail
  refine (write_nil w1).mono ?_
  rintro e w2 ⟨rfl, hw⟩
  subst hw
  go_wp2_with fail
  refine (read_nil w1).mono ?_
  rintro e w3 ⟨rfl, hb3⟩
  have HB3 : Hid (Below w.heap.size w w3) := Lib.hid (below_tr hb1.out hb3)
  clear hb3
  go_wp2_with fail
  go_ret
  exact ⟨rfl, HB3.out⟩
end Go.Proofs.YtbdankpkdhhlmaaGreat
