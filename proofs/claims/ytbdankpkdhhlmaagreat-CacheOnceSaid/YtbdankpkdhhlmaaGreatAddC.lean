/-
  Adding a repository: the walk. Helper text; the conditions are those typed.
-/
import Derived.Test.YtbdankpkdhhlmaaGreatAddP
import Derived.Deep.RegionHeld3
import Derived.Deep.QuietTactic
import Derived.Deep.RegionLaw
import Derived.Deep.Cut
import Derived.Deep.CutRange
import Derived.Deep.CutBlock
import Derived.BigQuiet
namespace Go.Proofs.YtbdankpkdhhlmaaGreat
set_option linter.unusedVariables false
set_option linter.unusedSimpArgs false
open Go.RowKit Go.Maps

/-- What Add leaves. -/
def AddPost (role : Nat → Role) (w : World) (B P M : Nat) (kd : Int) (rs : List RepoH) (ks : List KeptT) (r : RepoT) (e : Ending) (w' : World) : Prop :=
  e = .returned (.int .i64 (addErr rs ks r)) ∧ ∃ role' vr' va' lv', Moved role w role' w' ∧
    PoolIn w' B role' P M vr' va' lv' kd (if addErr rs ks r = 0 then rs ++ [⟨r.name, r.prio, r.inst⟩] else rs) (if addErr rs ks r = 0 then ks ++ r.pkgs.map (fun p => (⟨p, rs.length⟩ : KeptT)) else ks) ((if addErr rs ks r = 0 then ks ++ r.pkgs.map (fun p => (⟨p, rs.length⟩ : KeptT)) else ks).map fun k => k.pkg.name)

/-- The answers, by the guards. -/
def AddWays (Q : Int) (bn bd bi inst : Bool) (m : Prop) (fb : Int) : Prop :=
  (bn = false → Q = 66) ∧ (bn = true → bd = true → Q = 66) ∧ (bn = true → bd = false → inst = true → bi = true → Q = 67) ∧ (bn = true → bd = false → (inst = false ∨ bi = false) → m → Q = 68) ∧ (bn = true → bd = false → (inst = false ∨ bi = false) → ¬ m → Q = fb)

set_option maxHeartbeats 8000000 in
set_option maxRecDepth 100000 in
/-- Pool.Add. -/
theorem add_c (B : Nat) (role : Nat → Role) (P M : Nat) (vr va : Value) (lv : ByteArray → Value) (kd : Int) (rs : List RepoH) (ks : List KeptT) (r : RepoT) (ap : Option Addr) (np cp : Nat) (S : Nat → Prop) (w : World)
    (h : PoolIn w B role P M vr va lv kd rs ks (ks.map fun k => k.pkg.name)) (hB : B ≤ w.heap.size) (hrs : rs.length ≤ 8) (hks : ks.length ≤ 200) (hr : PkgsV w S r.pkgs (.slice ap np cp)) (hS : ∀ b, S b → role b = .free ∧ b < w.heap.size) :
    Calls Tryz.prog 37 #[.pointer (some ⟨P, 0, none⟩), .agg #[.string r.name, .int .i64 r.prio, .bool r.inst, .slice ap np cp]] w (AddPost role w B P M kd rs ks r) := by
  obtain ⟨hnp, hnb, hpk⟩ := pkgs_at hr
  replace hnp := Lib.hid hnp
  obtain ⟨POST, hPOST⟩ : ∃ POST, AddPost role w B P M kd rs ks r = POST := ⟨_, rfl⟩
  rw [hPOST]
  obtain ⟨Q, hQ⟩ : ∃ Q, addErr rs ks r = Q := ⟨_, rfl⟩
  have HREF : Hid (Q ≠ 0 → ∀ w', Below w.heap.size w w' → POST (.returned (.int .i64 Q)) w') := by
    intro h0 w' hb
    rw [← hPOST]
    refine ⟨by rw [hQ], role, vr, va, lv, .of_below hb, ?_⟩
    rw [hQ, if_neg h0, if_neg h0]
    exact h.below hb
  have HYES : Hid (Q = 0 → ∀ w' role' vr' va' lv', Moved role w role' w' → PoolIn w' B role' P M vr' va' lv' kd (rs ++ [⟨r.name, r.prio, r.inst⟩]) (ks ++ r.pkgs.map (fun p => (⟨p, rs.length⟩ : KeptT))) ((ks ++ r.pkgs.map (fun p => (⟨p, rs.length⟩ : KeptT))).map fun k => k.pkg.name) → POST (.returned (.int .i64 0)) w') := by
    intro h0 w' role' vr' va' lv' hm hp
    rw [← hPOST]
    refine ⟨by rw [hQ, h0], role', vr', va', lv', hm, ?_⟩
    rw [hQ, if_pos h0, if_pos h0]
    exact hp
  have hform : ∃ vra vrc vaa vac, vr = .slice vra rs.length vrc ∧ va = .slice vaa ks.length vac := by
    obtain ⟨xs, ha, _⟩ := h.arow
    have h1 : ∃ a c, vr = .slice a rs.length c := by
      rcases ownsRow_form h.rrow with ⟨e, h0⟩ | ⟨g, c, e, _⟩
      · exact ⟨none, 0, by rw [e, h0]⟩
      · exact ⟨_, c, e⟩
    have h2 : ∃ a c, va = .slice a ks.length c := by
      rcases ownsRow_form ha with ⟨e, h0⟩ | ⟨g, c, e, _⟩
      · exact ⟨none, 0, by rw [e, h0]⟩
      · exact ⟨_, c, e⟩
    obtain ⟨a, c, e1⟩ := h1
    obtain ⟨a', c', e2⟩ := h2
    exact ⟨a, c, a', c', e1, e2⟩
  obtain ⟨vra, vrc, vaa, vac, rfl, rfl⟩ := hform
  have HN := name_c r.name
  obtain ⟨w1, e1⟩ : ∃ w1, w.alloc (.cells #[.string r.name, .int .i64 r.prio, .bool r.inst, .slice ap np cp] 40) = w1 := ⟨_, rfl⟩
  have HB1 : Hid (Below w.heap.size w w1 ∧ BoxN w1 w.heap.size [.string r.name, .int .i64 r.prio, .bool r.inst, .slice ap np cp] 40) := by
    rw [← e1]
    exact ⟨below1 _ _, boxN_alloc _ _ _⟩
  have HH := Lib.hid h
  have HP := Lib.hid hpk
  have HS := Lib.hid hS
  have HBB := Lib.hid hB
  have HHR := Lib.hid hr
  clear h hpk hS hB hr hPOST
  -- the guards
  have HQ : AddWays Q (nameB r.name) (rs.any fun x => decide (x.name = r.name)) (rs.any fun x => x.inst) r.inst (8 ≤ rs.length ∨ 200 < ks.length + r.pkgs.length) (firstBad r.pkgs) := by
    rw [← hQ]
    unfold addErr AddWays
    refine ⟨fun h1 => if_pos (.inl h1), fun h1 h2 => if_pos (.inr h2), fun h1 h2 h3 h4 => ?_, fun h1 h2 h3 h4 => ?_, fun h1 h2 h3 h4 => ?_⟩
    · rw [if_neg (by simp [h1, h2]), if_pos (by rw [h3, h4]; rfl)]
    · rw [if_neg (by simp [h1, h2]), if_neg (by rcases h3 with h3 | h3 <;> simp [h3]), if_pos h4]
    · rw [if_neg (by simp [h1, h2]), if_neg (by rcases h3 with h3 | h3 <;> simp [h3]), if_neg h4]
  clear hQ
  generalize nameB r.name = bn at HN HQ
  replace HN := Lib.hid HN
  have p0 := HB1.out.2.cell (j := 0) rfl
  have p1 := HB1.out.2.cell (j := 1) rfl
  have p2 := HB1.out.2.cell (j := 2) rfl
  have p3 := HB1.out.2.cell (j := 3) rfl
  go_enter Tryz.func37, Tryz.ntmps37
  go_upto_block 0 with fail
  go_cut [1] from 5 (fun _ wx => Below w.heap.size w wx ∧ BoxN wx w.heap.size [.string r.name, .int .i64 r.prio, .bool r.inst, .slice ap np cp] 40 ∧ Q = firstBad r.pkgs ∧ ks.length + np ≤ 200 ∧ rs.length < 8)
  case first =>
    go_wp2_with fail
    refine (HN.out w1).mono ?_
    rintro e w2 ⟨rfl, hb2⟩
    have HB2 : Hid (Below w.heap.size w w2 ∧ BoxN w2 w.heap.size [.string r.name, .int .i64 r.prio, .bool r.inst, .slice ap np cp] 40) := ⟨below_tr HB1.out.1 hb2, HB1.out.2.below hb2⟩
    have HP2 := Lib.hid (HH.out.below HB2.out.1)
    clear hb2 p0 p1 p2 p3 e1 HB1
    have p0 := HB2.out.2.cell (j := 0) rfl
    have p1 := HB2.out.2.cell (j := 1) rfl
    have p2 := HB2.out.2.cell (j := 2) rfl
    have p3 := HB2.out.2.cell (j := 3) rfl
    have c0 := HP2.out.box.cell (j := 0) rfl
    have c1 := HP2.out.box.cell (j := 1) rfl
    have c2 := HP2.out.box.cell (j := 2) rfl
    have c3 := HP2.out.box.cell (j := 3) rfl
    cases bn with
    | false =>
      have hq := HQ.1 rfl
      subst hq
      go_wp2_with fail
      exact HREF.out (by decide) _ HB2.out.1
    | true =>
    have HA : Hid (Calls Tryz.prog 59 #[.slice vra rs.length vrc, .func (.func 60) #[] #[.pointer (some ⟨w.heap.size, 0, none⟩)]] w2 fun e w' => e = .returned (.bool (rs.any fun x => decide (x.name = r.name))) ∧ Below w2.heap.size w2 w') :=
      anyR_c rs _ B w2 HP2.out.rrow hrs _ 60 _ enters40 (sameName_at r.name w.heap.size w2 HB2.out.2.lt p0)
    generalize (rs.any fun x => decide (x.name = r.name)) = bd at HA HQ
    go_wp2_with fail
    refine HA.out.mono ?_
    rintro e w3 ⟨rfl, hb3⟩
    have HB3 : Hid (Below w.heap.size w w3 ∧ BoxN w3 w.heap.size [.string r.name, .int .i64 r.prio, .bool r.inst, .slice ap np cp] 40) := ⟨below_tr HB2.out.1 hb3, HB2.out.2.below hb3⟩
    have HP3 := Lib.hid (HH.out.below HB3.out.1)
    clear hb3 p0 p1 p2 p3 c0 c1 c2 c3 HA HB2 HP2
    have p0 := HB3.out.2.cell (j := 0) rfl
    have p1 := HB3.out.2.cell (j := 1) rfl
    have p2 := HB3.out.2.cell (j := 2) rfl
    have p3 := HB3.out.2.cell (j := 3) rfl
    have c0 := HP3.out.box.cell (j := 0) rfl
    have c1 := HP3.out.box.cell (j := 1) rfl
    have c2 := HP3.out.box.cell (j := 2) rfl
    have c3 := HP3.out.box.cell (j := 3) rfl
    cases bd with
    | true =>
      have hq := HQ.2.1 rfl rfl
      subst hq
      go_wp2_with fail
      exact HREF.out (by decide) _ HB3.out.1
    | false =>
    have HI : Hid (Calls Tryz.prog 59 #[.slice vra rs.length vrc, .func (.func 61) #[] #[]] w3 fun e w' => e = .returned (.bool (rs.any fun x => x.inst)) ∧ Below w3.heap.size w3 w') :=
      anyR_c rs _ B w3 HP3.out.rrow hrs _ 61 _ enters41 (isInst_at w3)
    generalize (rs.any fun x => x.inst) = bi at HI HQ
    have Hi : (r.inst = true ∧ bi = true) ∨ (r.inst = true ∧ bi = false) ∨ r.inst = false := by
      cases r.inst <;> cases bi <;> simp
    rcases Hi with ⟨hi, hbi⟩ | ⟨hi, hbi⟩ | hi
    · have hq := HQ.2.2.1 rfl rfl hi hbi
      subst hq hbi
      go_wp2_with fail
      refine HI.out.mono ?_
      rintro e w4 ⟨rfl, hb4⟩
      replace hb4 := Lib.hid (below_tr HB3.out.1 hb4)
      go_wp2_with fail
      exact HREF.out (by decide) _ hb4.out
    · have HQ5 := Lib.hid (HQ.2.2.2.1 rfl rfl (.inr hbi))
      have HQ6 := Lib.hid (HQ.2.2.2.2 rfl rfl (.inr hbi))
      subst hbi
      clear HQ
      go_wp2_with fail
      refine HI.out.mono ?_
      rintro e w4 ⟨rfl, hb4⟩
      have HB4 : Hid (Below w.heap.size w w4 ∧ BoxN w4 w.heap.size [.string r.name, .int .i64 r.prio, .bool r.inst, .slice ap np cp] 40) := ⟨below_tr HB3.out.1 hb4, HB3.out.2.below hb4⟩
      have HP4 := Lib.hid (HH.out.below HB4.out.1)
      clear hb4 p0 p1 p2 p3 c0 c1 c2 c3 HI HB3 HP3
      have p0 := HB4.out.2.cell (j := 0) rfl
      have p1 := HB4.out.2.cell (j := 1) rfl
      have p2 := HB4.out.2.cell (j := 2) rfl
      have p3 := HB4.out.2.cell (j := 3) rfl
      have c0 := HP4.out.box.cell (j := 0) rfl
      have c1 := HP4.out.box.cell (j := 1) rfl
      have c2 := HP4.out.box.cell (j := 2) rfl
      have c3 := HP4.out.box.cell (j := 3) rfl
      go_wp2_with fail
      have g0 : P < w4.heap.size := HP4.out.box.lt
      by_cases h8 : 8 ≤ (rs.length : Int)
      · have d8 : decide (8 ≤ (rs.length : Int)) = true := decide_eq_true h8
        have hq := HQ5.out (.inl (by omega))
        subst hq
        go_quiet (fail)
        go_wp2_with fail
        exact HREF.out (by decide) _ (below_dr HB4.out.1 _)
      have d8 : decide (8 ≤ (rs.length : Int)) = false := decide_eq_false h8
      by_cases h200 : 200 < (ks.length : Int) + (np : Int)
      · have d200 : decide (200 < (ks.length : Int) + (np : Int)) = true := decide_eq_true h200
        have hq := HQ5.out (.inr (by have := hnp.out; omega))
        subst hq
        go_quiet (fail)
        go_wp2_with fail
        exact HREF.out (by decide) _ (below_dr HB4.out.1 _)
      have d200 : decide (200 < (ks.length : Int) + (np : Int)) = false := decide_eq_false h200
      replace HQ6 := Lib.hid (HQ6.out (by have := hnp.out; omega))
      go_quiet (fail)
      go_wp2_with fail
      go_meet
      exact ⟨below_dr HB4.out.1 nq, HB4.out.2, HQ6.out, by omega, by omega⟩
    · have HQ5 := Lib.hid (HQ.2.2.2.1 rfl rfl (.inl hi))
      have HQ6 := Lib.hid (HQ.2.2.2.2 rfl rfl (.inl hi))
      clear HQ HI
      have HB4 := HB3
      have HP4 := HP3
      clear HB3 HP3
      rename World => w4
      go_wp2_with fail
      have g0 : P < w4.heap.size := HP4.out.box.lt
      by_cases h8 : 8 ≤ (rs.length : Int)
      · have d8 : decide (8 ≤ (rs.length : Int)) = true := decide_eq_true h8
        have hq := HQ5.out (.inl (by omega))
        subst hq
        go_quiet (fail)
        go_wp2_with fail
        exact HREF.out (by decide) _ (below_dr HB4.out.1 _)
      have d8 : decide (8 ≤ (rs.length : Int)) = false := decide_eq_false h8
      by_cases h200 : 200 < (ks.length : Int) + (np : Int)
      · have d200 : decide (200 < (ks.length : Int) + (np : Int)) = true := decide_eq_true h200
        have hq := HQ5.out (.inr (by have := hnp.out; omega))
        subst hq
        go_quiet (fail)
        go_wp2_with fail
        exact HREF.out (by decide) _ (below_dr HB4.out.1 _)
      have d200 : decide (200 < (ks.length : Int) + (np : Int)) = false := decide_eq_false h200
      replace HQ6 := Lib.hid (HQ6.out (by have := hnp.out; omega))
      go_quiet (fail)
      go_wp2_with fail
      go_meet
      exact ⟨below_dr HB4.out.1 nq, HB4.out.2, HQ6.out, by omega, by omega⟩
  case rest =>
    obtain ⟨hcb, hcx, hcq, hck, hcr⟩ := hcut
    have HB5 : Hid (Below w.heap.size w wc ∧ BoxN wc w.heap.size [.string r.name, .int .i64 r.prio, .bool r.inst, .slice ap np cp] 40) := ⟨hcb, hcx⟩
    have HQ6 := Lib.hid hcq
    have h200 : ¬ 200 < (ks.length : Int) + (np : Int) := by omega
    clear hcb hcx hcq
    have p3 := HB5.out.2.cell (j := 3) rfl
    go_wp2_with fail
    clear p3
    go_loopw [58] (fun vi wr => ∃ i : Nat, vi = .int .i64 i ∧ i ≤ np ∧ Hid (∀ j (hj : j < r.pkgs.length), j < i → pkgCheck r.pkgs[j] = 0) ∧ Hid (Below w.heap.size w wr ∧ BoxN wr w.heap.size [.string r.name, .int .i64 r.prio, .bool r.inst, .slice ap np cp] 40)) (fun vi _ => np - (intOf vi).toNat)
    case atStart => exact ⟨0, rfl, Nat.zero_le _, fun j h h0 => absurd h0 (Nat.not_lt_zero _), HB5.out⟩
    case round =>
      obtain ⟨i, rfl, hin, HG, HT⟩ := hrel
      clear HB5
      by_cases hlt : i < np
      · have hi1 : (i : Int) < (np : Int) := by omega
        have hlen : i < r.pkgs.length := by have := hnp.out; omega
        obtain ⟨b, off, rfl, hs, hi⟩ := HP.out (by omega)
        obtain ⟨a, c, af, nf, cf, hA⟩ := hi i hlen
        have hNO : pkgCheck r.pkgs[i] ≠ 0 → Q = pkgCheck r.pkgs[i] := fun h => by
          rw [HQ6.out]
          exact firstBad_at r.pkgs i hlen (fun j hj hji => HG.out j hj hji) h
        have hOK : pkgCheck r.pkgs[i] = 0 → ∀ j (hj : j < r.pkgs.length), j < i + 1 → pkgCheck r.pkgs[j] = 0 := fun h j hj hji => by
          rcases Nat.lt_succ_iff_lt_or_eq.1 hji with h1 | h1
          · exact HG.out j hj h1
          · subst h1; exact h
        replace hNO := Lib.hid hNO
        replace hOK := Lib.hid hOK
        replace hA := Lib.hid (hA.below HT.out.1)
        generalize r.pkgs[i] = pk at hA hNO hOK
        clear hi
        have q0 : wr.cell? ⟨b, off + i * 12, none⟩ = some _ := hA.out.cells 0 _ rfl
        have q1 : wr.cell? ⟨b, off + i * 12 + 1, none⟩ = some _ := hA.out.cells 1 _ rfl
        have q2 : wr.cell? ⟨b, off + i * 12 + 2, none⟩ = some _ := hA.out.cells 2 _ rfl
        have q3 : wr.cell? ⟨b, off + i * 12 + 3, none⟩ = some _ := hA.out.cells 3 _ rfl
        have q4 : wr.cell? ⟨b, off + i * 12 + 4, none⟩ = some _ := hA.out.cells 4 _ rfl
        have q5 : wr.cell? ⟨b, off + i * 12 + 5, none⟩ = some _ := hA.out.cells 5 _ rfl
        have q6 : wr.cell? ⟨b, off + i * 12 + 6, none⟩ = some _ := hA.out.cells 6 _ rfl
        have q7 : wr.cell? ⟨b, off + i * 12 + 7, none⟩ = some _ := hA.out.cells 7 _ rfl
        have q8 : wr.cell? ⟨b, off + i * 12 + 8, none⟩ = some _ := hA.out.cells 8 _ rfl
        have q9 : wr.cell? ⟨b, off + i * 12 + 9, none⟩ = some _ := hA.out.cells 9 _ rfl
        have q10 : wr.cell? ⟨b, off + i * 12 + 10, none⟩ = some _ := hA.out.cells 10 _ rfl
        have q11 : wr.cell? ⟨b, off + i * 12 + 11, none⟩ = some _ := hA.out.cells 11 _ rfl
        obtain ⟨w6, e6⟩ : ∃ w6, wr.alloc (.cells #[.string pk.name, .string pk.evr, .string pk.arch, .string pk.vendor, .slice (a 0) (pk.n 0) (c 0), .slice (a 1) (pk.n 1) (c 1), .slice (a 2) (pk.n 2) (c 2), .slice (a 3) (pk.n 3) (c 3), .slice (a 4) (pk.n 4) (c 4), .slice (a 5) (pk.n 5) (c 5), .slice (a 6) (pk.n 6) (c 6), .slice af nf cf] 45) = w6 := ⟨_, rfl⟩
        have HB6 : Hid (Below wr.heap.size wr w6 ∧ BoxN w6 wr.heap.size (pkgCells pk.name pk.evr pk.arch pk.vendor (fun i => .slice (a i) (pk.n i) (c i)) (.slice af nf cf)) 45) := by
          rw [← e6]
          exact ⟨below1 _ _, boxN_alloc _ _ _⟩
        have r0 := HB6.out.2.cell (j := 0) rfl
        have r1 := HB6.out.2.cell (j := 1) rfl
        have r2 := HB6.out.2.cell (j := 2) rfl
        have r3 := HB6.out.2.cell (j := 3) rfl
        have r4 := HB6.out.2.cell (j := 4) rfl
        have r5 := HB6.out.2.cell (j := 5) rfl
        have r6 := HB6.out.2.cell (j := 6) rfl
        have r7 := HB6.out.2.cell (j := 7) rfl
        have r8 := HB6.out.2.cell (j := 8) rfl
        have r9 := HB6.out.2.cell (j := 9) rfl
        have r10 := HB6.out.2.cell (j := 10) rfl
        have r11 := HB6.out.2.cell (j := 11) rfl
        have hC := check_c pk a c af nf cf S w6 (hA.out.pkg.below HB6.out.1) (fun b hb => Nat.lt_of_lt_of_le (HS.out b hb).2 (Nat.le_trans HT.out.1.size HB6.out.1.size))
        generalize pkgCheck pk = q at hC hNO hOK
        replace hC := Lib.hid hC
        go_wp2_with fail
        refine hC.out.mono ?_
        rintro e w7 ⟨rfl, hb7⟩
        have HB7 : Hid (Below w.heap.size w w7 ∧ BoxN w7 w.heap.size [.string r.name, .int .i64 r.prio, .bool r.inst, .slice (some ⟨b, off, none⟩) np cp] 40) := ⟨below_tr (below_tr HT.out.1 HB6.out.1) hb7, (HT.out.2.below HB6.out.1).below hb7⟩
        clear hb7 e6
        clear q0 q1 q2 q3 q4 q5 q6 q7 q8 q9 q10 q11 r0 r1 r2 r3 r4 r5 r6 r7 r8 r9 r10 r11
        by_cases hq : q = 0
        · subst hq
          go_wp2_with fail
          go_roundw
          case rel => exact ⟨i + 1, by go_num, by omega, hOK.out trivial, HB7.out⟩
          case measure => simp [intOf]; omega
        · have hq1 : (q != 0) = true := by simpa using hq
          replace hq := Lib.hid hq
          have hQ := hNO.out hq.out
          subst hQ
          go_wp2_with fail
          exact HREF.out hq.out _ HB7.out.1
      · have hi1 : ¬ (i : Int) < (np : Int) := by omega
        have hQ0 : Hid (Q = 0) := by
          rw [HQ6.out]
          exact firstBad_none r.pkgs fun j hj => HG.out j hj (by have := hnp.out; omega)
        have p3 := HT.out.2.cell (j := 3) rfl
        clear HG
        go_wp2_with fail
        clear p3
        have HB8 : Hid (Below w.heap.size w wr ∧ BoxN wr w.heap.size [.string r.name, .int .i64 r.prio, .bool r.inst, .slice ap np cp] 40) := HT.out
        clear HT HREF
        rename World => w8
        have HP8 := Lib.hid (HH.out.below HB8.out.1)
        go_loopw [71] (fun vi wr => ∃ i : Nat, vi = .int .i64 i ∧ i ≤ np ∧ Hid (∃ role' va' lv', Moved role w8 role' wr ∧ PoolIn wr B role' P M (.slice vra rs.length vrc) va' lv' kd rs (ks ++ (r.pkgs.take i).map (fun p => (⟨p, rs.length⟩ : KeptT))) ((ks ++ (r.pkgs.take i).map (fun p => (⟨p, rs.length⟩ : KeptT))).map fun k => k.pkg.name))) (fun vi _ => np - (intOf vi).toNat)
        case atStart => exact ⟨0, rfl, Nat.zero_le _, role, _, lv, Moved.refl _ _, by simpa using HP8.out⟩
        case round =>
          obtain ⟨i, rfl, hin2, HM0⟩ := hrel
          obtain ⟨role', va', lv', hM, hPl⟩ := HM0.out
          clear HM0
          by_cases hlt2 : i < np
          · have hi2 : (i : Int) < (np : Int) := by omega
            have hlen : i < r.pkgs.length := by have := hnp.out; omega
            have hKn : (ks ++ (r.pkgs.take i).map (fun p => (⟨p, rs.length⟩ : KeptT))).length = ks.length + i := by
              rw [List.length_append, List.length_map, List.length_take]
              omega
            have hnext : ks ++ (r.pkgs.take (i + 1)).map (fun p => (⟨p, rs.length⟩ : KeptT)) = (ks ++ (r.pkgs.take i).map (fun p => (⟨p, rs.length⟩ : KeptT))) ++ [⟨r.pkgs[i], rs.length⟩] := by
              rw [List.take_add_one, List.getElem?_eq_getElem hlen, Option.toList_some, List.map_append, ← List.append_assoc]
              rfl
            obtain ⟨b, off, rfl, hs, hi⟩ := HP.out (by omega)
            obtain ⟨a, c, af, nf, cf, hA⟩ := hi i hlen
            have hsame : ∀ b, S b → b < w.heap.size → wr.heap[b]? = w.heap[b]? := fun b hb hl => by
              rw [(hM.block b (Nat.lt_of_lt_of_le hl HB8.out.1.size) (HS.out b hb).1).1, HB8.out.1.block b hl]
            replace hA := Lib.hid (hA.keep (fun _ h => h) hsame (hsame b hs (HS.out b hs).2))
            generalize hKS : ks ++ (r.pkgs.take i).map (fun p => (⟨p, rs.length⟩ : KeptT)) = KS at hPl hKn hnext
            generalize r.pkgs[i] = pk at hA hnext
            replace hnext := Lib.hid hnext
            clear hKS hi hsame
            have hK200 : KS.length + 1 ≤ 200 := by
              have := hnp.out
              omega
            obtain ⟨va1, vac1, rfl⟩ := hPl.arow_form
            replace hKn := Lib.hid hKn
            replace hM := Lib.hid hM
            replace hPl := Lib.hid hPl
            have hwin : w.heap.size < w8.heap.size := HB8.out.2.lt
            have q0 : wr.cell? ⟨b, off + i * 12, none⟩ = some _ := hA.out.cells 0 _ rfl
            have q1 : wr.cell? ⟨b, off + i * 12 + 1, none⟩ = some _ := hA.out.cells 1 _ rfl
            have q2 : wr.cell? ⟨b, off + i * 12 + 2, none⟩ = some _ := hA.out.cells 2 _ rfl
            have q3 : wr.cell? ⟨b, off + i * 12 + 3, none⟩ = some _ := hA.out.cells 3 _ rfl
            have q4 : wr.cell? ⟨b, off + i * 12 + 4, none⟩ = some _ := hA.out.cells 4 _ rfl
            have q5 : wr.cell? ⟨b, off + i * 12 + 5, none⟩ = some _ := hA.out.cells 5 _ rfl
            have q6 : wr.cell? ⟨b, off + i * 12 + 6, none⟩ = some _ := hA.out.cells 6 _ rfl
            have q7 : wr.cell? ⟨b, off + i * 12 + 7, none⟩ = some _ := hA.out.cells 7 _ rfl
            have q8 : wr.cell? ⟨b, off + i * 12 + 8, none⟩ = some _ := hA.out.cells 8 _ rfl
            have q9 : wr.cell? ⟨b, off + i * 12 + 9, none⟩ = some _ := hA.out.cells 9 _ rfl
            have q10 : wr.cell? ⟨b, off + i * 12 + 10, none⟩ = some _ := hA.out.cells 10 _ rfl
            have q11 : wr.cell? ⟨b, off + i * 12 + 11, none⟩ = some _ := hA.out.cells 11 _ rfl
            obtain ⟨w9, e9⟩ : ∃ w9, wr.alloc (.cells #[.string pk.name, .string pk.evr, .string pk.arch, .string pk.vendor, .slice (a 0) (pk.n 0) (c 0), .slice (a 1) (pk.n 1) (c 1), .slice (a 2) (pk.n 2) (c 2), .slice (a 3) (pk.n 3) (c 3), .slice (a 4) (pk.n 4) (c 4), .slice (a 5) (pk.n 5) (c 5), .slice (a 6) (pk.n 6) (c 6), .slice af nf cf] 45) = w9 := ⟨_, rfl⟩
            have HB9 : Hid (Below wr.heap.size wr w9 ∧ BoxN w9 wr.heap.size (pkgCells pk.name pk.evr pk.arch pk.vendor (fun i => .slice (a i) (pk.n i) (c i)) (.slice af nf cf)) 45) := by
              rw [← e9]
              exact ⟨below1 _ _, boxN_alloc _ _ _⟩
            have HP9 := Lib.hid (hPl.out.below HB9.out.1)
            have hnm : pk.name.size ≤ maxLen := hA.out.pkg.name
            obtain ⟨NS, hNS⟩ : ∃ NS, (KS.map fun k => k.pkg.name) = NS := ⟨_, rfl⟩
            have hNl : Hid (NS.length = KS.length) := by rw [← hNS]; simp [Hid]
            rw [hNS] at HP9
            replace hNS := Lib.hid hNS
            obtain ⟨al, cl, hcv, hcown⟩ := HP9.out.cur pk.name
            obtain ⟨nl, hnl⟩ : ∃ nl, (idsOf NS pk.name).length = nl := ⟨_, rfl⟩
            rw [hnl] at hcv hcown
            have hnl200 : nl ≤ 200 := by
              have h1 := idsOf_len NS pk.name
              have h2 := hNl.out
              omega
            replace hnl := Lib.hid hnl
            have hlk := HP9.out.look hnm
            rw [hcv] at hlk
            have hlk1 : (Instr.lookup 96 (.map (some M)) (.string pk.name) false).run Tryz.prog w9.drew = .ok (.slice al nl cl) w9.drew := by
              have := (HP9.out.below (w' := w9.drew) (below_dr1 (Below.refl _ w9))).look hnm
              rw [hcv] at this
              exact this
            have hlk2 : (Instr.lookup 96 (.map (some M)) (.string pk.name) false).run Tryz.prog (w9.alloc (.cells #[.int .i64 (KS.length : Int)] 3)).drew = .ok (.slice al nl cl) (w9.alloc (.cells #[.int .i64 (KS.length : Int)] 3)).drew := by
              have := (HP9.out.below (w' := (w9.alloc (.cells #[.int .i64 (KS.length : Int)] 3)).drew) (below_dr1 (below1 w9 _))).look hnm
              rw [hcv] at this
              exact this
            replace hcv := Lib.hid hcv
            replace hcown := Lib.hid hcown
            -- what the loads and the lookup read, in each world of the region
            have HK : Hid (∀ W, Below w9.heap.size w9 W → W.cell? ⟨P, 2, none⟩ = some (.slice va1 KS.length vac1) ∧ W.cell? ⟨P, 3, none⟩ = some (.map (some M)) ∧ W.cell? ⟨wr.heap.size, 0, none⟩ = some (.string pk.name)) := fun W hb => by
              have h1 := HP9.out.below hb
              exact ⟨h1.box.cell (j := 2) rfl, h1.box.cell (j := 3) rfl, (HB9.out.2.below hb).cell (j := 0) rfl⟩
            have HK2 : Hid (∀ W1 W, Below w9.heap.size w9 W1 → W1.grownBy W (Value.slice al nl cl).ownBlock → ∀ b, b < w9.heap.size → role' b ≠ .list pk.name → W.heap[b]? = w9.heap[b]?) := fun W1 W hb hg b hlt hne =>
              grown_below hb hg hlt (by rw [← hcv.out]; exact HP9.out.cur_ne pk.name hne)
            have hfree : role' wr.heap.size = .free := by
              by_cases hr : role' wr.heap.size = .free
              · exact hr
              · exact absurd (hPl.out.hi _ hr) (Nat.lt_irrefl _)
            replace hfree := Lib.hid hfree
            have HK3 : Hid (∀ W1 W, Below w9.heap.size w9 W1 → W1.grownBy W (Value.slice al nl cl).ownBlock → W.cell? ⟨P, 2, none⟩ = some (.slice va1 KS.length vac1) ∧ W.cell? ⟨P, 3, none⟩ = some (.map (some M)) ∧ W.cell? ⟨wr.heap.size, 0, none⟩ = some (.string pk.name)) := fun W1 W hb hg => by
              have hP := HP9.out.box.to (HK2.out W1 W hb hg P HP9.out.box.lt (by rw [HP9.out.rP]; simp))
              have hX := HB9.out.2.to (HK2.out W1 W hb hg _ HB9.out.2.lt (by rw [hfree.out]; simp))
              exact ⟨hP.cell (j := 2) rfl, hP.cell (j := 3) rfl, hX.cell (j := 0) rfl⟩
            have HK4 : Hid (∀ W1 W W2, Below w9.heap.size w9 W1 → W1.grownBy W (Value.slice al nl cl).ownBlock → W.grownBy W2 (some M) → W2.cell? ⟨P, 2, none⟩ = some (.slice va1 KS.length vac1) ∧ W2.cell? ⟨P, 3, none⟩ = some (.map (some M)) ∧ W2.cell? ⟨wr.heap.size, 0, none⟩ = some (.string pk.name)) := fun W1 W W2 hb hg hg2 => by
              have hz : w9.heap.size ≤ W.heap.size := Nat.le_trans hb.size hg.size
              have hP := HP9.out.box.to ((hg2.block P (Nat.lt_of_lt_of_le HP9.out.box.lt hz) (fun e => by have h1 := HP9.out.rP; have h2 := HP9.out.rM; cases e; rw [h1] at h2; cases h2)).trans (HK2.out W1 W hb hg P HP9.out.box.lt (by rw [HP9.out.rP]; simp)))
              have hX := HB9.out.2.to ((hg2.block _ (Nat.lt_of_lt_of_le HB9.out.2.lt hz) (fun e => by have h1 := hfree.out; have h2 := HP9.out.rM; cases e; rw [h1] at h2; cases h2)).trans (HK2.out W1 W hb hg _ HB9.out.2.lt (by rw [hfree.out]; simp)))
              exact ⟨hP.cell (j := 2) rfl, hP.cell (j := 3) rfl, hX.cell (j := 0) rfl⟩
            have HMAP : Hid (∀ W1 W, Below w9.heap.size w9 W1 → W1.grownBy W (Value.slice al nl cl).ownBlock → MapAt Tryz.prog 9 W M NS.length (namedF NS lv')) := fun W1 W hb hg => by
              have h1 := HP9.out.below hb
              exact h1.named.block (hg.block M h1.named.lt (by rw [← hcv.out]; exact h1.cur_ne pk.name (by rw [h1.rM]; simp)))
            obtain ⟨i3, hi3, hz30, hz31, hz32⟩ := info_parts info3
            have c0 := HP9.out.box.cell (j := 0) rfl
            have c2 := HP9.out.box.cell (j := 2) rfl
            have c3 := HP9.out.box.cell (j := 3) rfl
            have x0 := HB9.out.2.cell (j := 0) rfl
            go_wp2_with fail
            go_cut [71] from 71 to 112 (fun t71 wx => t71 = .int .i64 (i : Int) ∧ ∃ role2 lv2, Moved role' wr role2 wx ∧ PoolIn wx B role2 P M (.slice vra rs.length vrc) (.slice va1 KS.length vac1) lv2 kd rs KS (NS ++ [pk.name]) ∧ BoxN wx wr.heap.size (pkgCells pk.name pk.evr pk.arch pk.vendor (fun i => .slice (a i) (pk.n i) (c i)) (.slice af nf cf)) 45 ∧ role2 wr.heap.size = .free)
            case first =>
              go_region_held3 (fun W => W.cell? ⟨P, 2, none⟩ = some (.slice va1 KS.length vac1) ∧ W.cell? ⟨P, 3, none⟩ = some (.map (some M)) ∧ W.cell? ⟨wr.heap.size, 0, none⟩ = some (.string pk.name))
                (first | exact HK.out _ (below_dr1 (Below.refl _ _)) | exact HK.out _ (below_dr1 (below1 _ _)) | exact HK3.out _ _ (below_dr1 (below1 _ _)) hgrow10 | exact HK4.out _ _ _ (below_dr1 (below1 _ _)) hgrow10 hg11)
                ((refine step_append_lies _ (by rfl) (.tmp 87) (.tmp 93) 91 (by rfl) B 3 i3 (.int .i64 0) 1 8 Tryz.underlying91 hi3 hz30 hz31 hz32 rfl (by decide) (.slice al nl cl) nl (intsL (idsOf NS pk.name)) (by rfl) (ownsRow_below hcown.out (below_dr1 (below1 _ _))) ⟨w9.heap.size, 0, none⟩ 1 1 [.int .i64 (KS.length : Int)] (by rfl) (by rfl) (World.news_of_block (cs := #[.int .i64 (KS.length : Int)]) (t := 3) (fr := (0, 0)) (heap_alloc_new w9 _)) (by simp [Value.oneCell']) (by omega) (by unfold maxLen; omega) (by omega) (by have h1 := HBB.out; have h2 := HB8.out.1.size; have h3 := hM.out.size; have h4 := HB9.out.1.size; simp; omega) (w9.heap.size + 1) (by simp) ?_; intro g cap w10 hown10 hgrow10 hat10 hlt10; obtain ⟨w11, hrun11, hm11, hg11, hz11⟩ := PoolIn.store (HMAP.out _ _ (below_dr1 (below1 _ _)) hgrow10) (by have := hNl.out; unfold maxLen; omega) hnm (.slice (some ⟨g, 0, none⟩) (nl + 1) cap)))
              all_goals
                have HW1 : Hid (Below w9.heap.size w9 (w9.alloc (.cells #[.int .i64 (KS.length : Int)] 3)).drew) := below_dr1 (below1 _ _)
                have hat10' : (Value.slice al nl cl).ownBlock = some g ∨ (w9.alloc (.cells #[.int .i64 (KS.length : Int)] 3)).drew.heap.size ≤ g := by
                  rcases hat10 with h1 | h1
                  · exact .inl h1
                  · right
                    subst h1
                    show (w9.alloc (.cells #[.int .i64 (KS.length : Int)] 3)).heap.size ≤ _
                    simp
                have hcv' : Value.slice al nl cl = if idsOf NS pk.name = [] then .slice none 0 0 else lv' pk.name := hcv.out.symm
                have hBW : B ≤ (w9.alloc (.cells #[.int .i64 (KS.length : Int)] 3)).drew.heap.size := by
                  have h1 := HBB.out; have h2 := HB8.out.1.size; have h3 := hM.out.size; have h4 := HB9.out.1.size; have h5 := HW1.out.size
                  omega
                have hown10' : w10.ownsRow B 3 1 (.slice (some ⟨g, 0, none⟩) (nl + 1) cap) (nl + 1) (intsL (idsOf NS pk.name) ++ [.int .i64 (NS.length : Int)]) := by
                  rw [hNl.out]; exact hown10
                have HP11 := Lib.hid ((HP9.out.below HW1.out).list_step pk.name hcv' hnl.out.symm hBW hown10' hgrow10 hat10' hlt10 hm11 hg11)
                have HM11 := Lib.hid ((Moved.of_below (role := role') (below_tr HB9.out.1 HW1.out)).trans ((HP9.out.below HW1.out).list_moved pk.name hcv' hgrow10 hat10' hg11))
                have HB11 : Hid (BoxN w11 wr.heap.size (pkgCells pk.name pk.evr pk.arch pk.vendor (fun i => .slice (a i) (pk.n i) (c i)) (.slice af nf cf)) 45) := by
                  have hz : w9.heap.size ≤ w10.heap.size := Nat.le_trans HW1.out.size hgrow10.size
                  exact HB9.out.2.to ((hg11.block _ (Nat.lt_of_lt_of_le HB9.out.2.lt hz) (fun e => by have h1 := hfree.out; have h2 := HP9.out.rM; cases e; rw [h1] at h2; cases h2)).trans (HK2.out _ _ HW1.out hgrow10 _ HB9.out.2.lt (by rw [hfree.out]; simp)))
                have hfree2 : Hid ((fun b => if b = g then Role.list pk.name else role' b) wr.heap.size = .free) :=
                  (((HP9.out.below HW1.out).list_moved pk.name hcv' hgrow10 hat10' hg11).block wr.heap.size (Nat.lt_of_lt_of_le HB9.out.2.lt HW1.out.size) hfree.out).2
                go_wp2_with fail
                all_goals
                  go_meet
                  exact ⟨rfl, _, _, HM11.out, HP11.out, HB11.out, hfree2.out⟩
            case rest =>
              obtain ⟨rfl, role2, lv2, hM11, hP11, hB11, hf2⟩ := hcut
              rename World => w11
              have HM11 := Lib.hid hM11
              have HP11 := Lib.hid hP11
              have HB11 := Lib.hid hB11
              have hfree2 := Lib.hid hf2
              clear hM11 hP11 hB11 hf2
              have hA11 := Lib.hid (hA.out.keep (w' := w11) (fun _ h => h) (fun b hb hl => (HM11.out.block b hl (hM.out.block b (Nat.lt_of_lt_of_le (HS.out b hb).2 HB8.out.1.size) (HS.out b hb).1).2).1) ((HM11.out.block b (Nat.lt_of_lt_of_le (HS.out b hs).2 (Nat.le_trans HB8.out.1.size hM.out.size)) (hM.out.block b (Nat.lt_of_lt_of_le (HS.out b hs).2 HB8.out.1.size) (HS.out b hs).1).2).1))
              clear hcv hcown hlk hlk1 hlk2 HK HK2 HK3 HK4 HMAP c0 c2 c3 x0 HB9 HP9 hA q0 q1 q2 q3 q4 q5 q6 q7 q8 q9 q10 q11 e9
              obtain ⟨xs, hxs, hcont⟩ := HP11.out.arow
              replace hxs := Lib.hid hxs
              replace hcont := Lib.hid hcont
              have c0 := HP11.out.box.cell (j := 0) rfl
              have c1 := HP11.out.box.cell (j := 1) rfl
              have c2 := HP11.out.box.cell (j := 2) rfl
              have x0 := HB11.out.cell (j := 0) rfl
              have x1 := HB11.out.cell (j := 1) rfl
              have x2 := HB11.out.cell (j := 2) rfl
              have x3 := HB11.out.cell (j := 3) rfl
              have x4 := HB11.out.cell (j := 4) rfl
              have x5 := HB11.out.cell (j := 5) rfl
              have x6 := HB11.out.cell (j := 6) rfl
              have x7 := HB11.out.cell (j := 7) rfl
              have x8 := HB11.out.cell (j := 8) rfl
              have x9 := HB11.out.cell (j := 9) rfl
              have x10 := HB11.out.cell (j := 10) rfl
              have x11 := HB11.out.cell (j := 11) rfl
              have HL : Hid (∀ W, Below w11.heap.size w11 W → W.cell? ⟨P, 1, none⟩ = some (.slice vra rs.length vrc) ∧ W.cell? ⟨wr.heap.size, 0, none⟩ = some (.string pk.name) ∧ W.cell? ⟨wr.heap.size, 1, none⟩ = some (.string pk.evr) ∧ W.cell? ⟨wr.heap.size, 2, none⟩ = some (.string pk.arch) ∧ W.cell? ⟨wr.heap.size, 3, none⟩ = some (.string pk.vendor) ∧ W.cell? ⟨wr.heap.size, 4, none⟩ = some (.slice (a 0) (pk.n 0) (c 0)) ∧ W.cell? ⟨wr.heap.size, 5, none⟩ = some (.slice (a 1) (pk.n 1) (c 1)) ∧ W.cell? ⟨wr.heap.size, 6, none⟩ = some (.slice (a 2) (pk.n 2) (c 2)) ∧ W.cell? ⟨wr.heap.size, 7, none⟩ = some (.slice (a 3) (pk.n 3) (c 3)) ∧ W.cell? ⟨wr.heap.size, 8, none⟩ = some (.slice (a 4) (pk.n 4) (c 4)) ∧ W.cell? ⟨wr.heap.size, 9, none⟩ = some (.slice (a 5) (pk.n 5) (c 5)) ∧ W.cell? ⟨wr.heap.size, 10, none⟩ = some (.slice (a 6) (pk.n 6) (c 6)) ∧ W.cell? ⟨wr.heap.size, 11, none⟩ = some (.slice af nf cf)) := fun W hb => by
                have h1 := (HP11.out.below hb).box
                have h2 := HB11.out.below hb
                exact ⟨h1.cell (j := 1) rfl, h2.cell (j := 0) rfl, h2.cell (j := 1) rfl, h2.cell (j := 2) rfl, h2.cell (j := 3) rfl, h2.cell (j := 4) rfl, h2.cell (j := 5) rfl, h2.cell (j := 6) rfl, h2.cell (j := 7) rfl, h2.cell (j := 8) rfl, h2.cell (j := 9) rfl, h2.cell (j := 10) rfl, h2.cell (j := 11) rfl⟩
              have HX13 : Hid (∀ W1 W, Below w11.heap.size w11 W1 → W1.grownBy W (Value.slice va1 KS.length vac1).ownBlock → BoxN W P [.int .i64 kd, .slice vra rs.length vrc, .slice va1 KS.length vac1, .map (some M)] 98 ∧ BoxN W wr.heap.size (pkgCells pk.name pk.evr pk.arch pk.vendor (fun i => .slice (a i) (pk.n i) (c i)) (.slice af nf cf)) 45) := fun W1 W hb hg => by
                have hne : ∀ b, role2 b ≠ .all → some b ≠ (Value.slice va1 KS.length vac1).ownBlock := fun b hr e => hr (HP11.out.rA b e.symm)
                exact ⟨HP11.out.box.to (grown_below hb hg HP11.out.box.lt (hne P (by rw [HP11.out.rP]; simp))), HB11.out.to (grown_below hb hg HB11.out.lt (hne _ (by rw [hfree2.out]; simp)))⟩
              have HL13 : Hid (∀ W1 W, Below w11.heap.size w11 W1 → W1.grownBy W (Value.slice va1 KS.length vac1).ownBlock → W.cell? ⟨P, 1, none⟩ = some (.slice vra rs.length vrc) ∧ W.cell? ⟨wr.heap.size, 0, none⟩ = some (.string pk.name) ∧ W.cell? ⟨wr.heap.size, 1, none⟩ = some (.string pk.evr) ∧ W.cell? ⟨wr.heap.size, 2, none⟩ = some (.string pk.arch) ∧ W.cell? ⟨wr.heap.size, 3, none⟩ = some (.string pk.vendor) ∧ W.cell? ⟨wr.heap.size, 4, none⟩ = some (.slice (a 0) (pk.n 0) (c 0)) ∧ W.cell? ⟨wr.heap.size, 5, none⟩ = some (.slice (a 1) (pk.n 1) (c 1)) ∧ W.cell? ⟨wr.heap.size, 6, none⟩ = some (.slice (a 2) (pk.n 2) (c 2)) ∧ W.cell? ⟨wr.heap.size, 7, none⟩ = some (.slice (a 3) (pk.n 3) (c 3)) ∧ W.cell? ⟨wr.heap.size, 8, none⟩ = some (.slice (a 4) (pk.n 4) (c 4)) ∧ W.cell? ⟨wr.heap.size, 9, none⟩ = some (.slice (a 5) (pk.n 5) (c 5)) ∧ W.cell? ⟨wr.heap.size, 10, none⟩ = some (.slice (a 6) (pk.n 6) (c 6)) ∧ W.cell? ⟨wr.heap.size, 11, none⟩ = some (.slice af nf cf)) := fun W1 W hb hg => by
                obtain ⟨h1, h2⟩ := HX13.out W1 W hb hg
                exact ⟨h1.cell (j := 1) rfl, h2.cell (j := 0) rfl, h2.cell (j := 1) rfl, h2.cell (j := 2) rfl, h2.cell (j := 3) rfl, h2.cell (j := 4) rfl, h2.cell (j := 5) rfl, h2.cell (j := 6) rfl, h2.cell (j := 7) rfl, h2.cell (j := 8) rfl, h2.cell (j := 9) rfl, h2.cell (j := 10) rfl, h2.cell (j := 11) rfl⟩
              have HL14 : Hid (∀ W1 W v, Below w11.heap.size w11 W1 → W1.grownBy W (Value.slice va1 KS.length vac1).ownBlock → (W.setCell ⟨P, 2, none⟩ v).cell? ⟨P, 1, none⟩ = some (.slice vra rs.length vrc) ∧ (W.setCell ⟨P, 2, none⟩ v).cell? ⟨wr.heap.size, 0, none⟩ = some (.string pk.name) ∧ (W.setCell ⟨P, 2, none⟩ v).cell? ⟨wr.heap.size, 1, none⟩ = some (.string pk.evr) ∧ (W.setCell ⟨P, 2, none⟩ v).cell? ⟨wr.heap.size, 2, none⟩ = some (.string pk.arch) ∧ (W.setCell ⟨P, 2, none⟩ v).cell? ⟨wr.heap.size, 3, none⟩ = some (.string pk.vendor) ∧ (W.setCell ⟨P, 2, none⟩ v).cell? ⟨wr.heap.size, 4, none⟩ = some (.slice (a 0) (pk.n 0) (c 0)) ∧ (W.setCell ⟨P, 2, none⟩ v).cell? ⟨wr.heap.size, 5, none⟩ = some (.slice (a 1) (pk.n 1) (c 1)) ∧ (W.setCell ⟨P, 2, none⟩ v).cell? ⟨wr.heap.size, 6, none⟩ = some (.slice (a 2) (pk.n 2) (c 2)) ∧ (W.setCell ⟨P, 2, none⟩ v).cell? ⟨wr.heap.size, 7, none⟩ = some (.slice (a 3) (pk.n 3) (c 3)) ∧ (W.setCell ⟨P, 2, none⟩ v).cell? ⟨wr.heap.size, 8, none⟩ = some (.slice (a 4) (pk.n 4) (c 4)) ∧ (W.setCell ⟨P, 2, none⟩ v).cell? ⟨wr.heap.size, 9, none⟩ = some (.slice (a 5) (pk.n 5) (c 5)) ∧ (W.setCell ⟨P, 2, none⟩ v).cell? ⟨wr.heap.size, 10, none⟩ = some (.slice (a 6) (pk.n 6) (c 6)) ∧ (W.setCell ⟨P, 2, none⟩ v).cell? ⟨wr.heap.size, 11, none⟩ = some (.slice af nf cf)) := fun W1 W v hb hg => by
                obtain ⟨h1, h2⟩ := HX13.out W1 W hb hg
                replace h1 := h1.set 2 v
                have hne : wr.heap.size ≠ P := fun e => by have h3 := hfree2.out; rw [e, HP11.out.rP] at h3; cases h3
                replace h2 := h2.to (set_other (o := 2) v hne)
                exact ⟨h1.cell (j := 1) rfl, h2.cell (j := 0) rfl, h2.cell (j := 1) rfl, h2.cell (j := 2) rfl, h2.cell (j := 3) rfl, h2.cell (j := 4) rfl, h2.cell (j := 5) rfl, h2.cell (j := 6) rfl, h2.cell (j := 7) rfl, h2.cell (j := 8) rfl, h2.cell (j := 9) rfl, h2.cell (j := 10) rfl, h2.cell (j := 11) rfl⟩
              have HC : Hid (∀ W, Below w11.heap.size w11 W → Calls Tryz.prog 47 #[.agg #[.string pk.name, .string pk.evr, .string pk.arch, .string pk.vendor, .slice (a 0) (pk.n 0) (c 0), .slice (a 1) (pk.n 1) (c 1), .slice (a 2) (pk.n 2) (c 2), .slice (a 3) (pk.n 3) (c 3), .slice (a 4) (pk.n 4) (c 4), .slice (a 5) (pk.n 5) (c 5), .slice (a 6) (pk.n 6) (c 6), .slice af nf cf]] W fun e w' => (∃ (a' : Fin 7 → Option Addr) (c' : Fin 7 → Nat) (af' : Option Addr) (cf' : Nat), e = .returned (.agg #[.string pk.name, .string pk.evr, .string pk.arch, .string pk.vendor, .slice (a' 0) (pk.n 0) (c' 0), .slice (a' 1) (pk.n 1) (c' 1), .slice (a' 2) (pk.n 2) (c' 2), .slice (a' 3) (pk.n 3) (c' 3), .slice (a' 4) (pk.n 4) (c' 4), .slice (a' 5) (pk.n 5) (c' 5), .slice (a' 6) (pk.n 6) (c' 6), .slice af' nf cf']) ∧ PkgV w' (fun b => W.heap.size ≤ b) pk (fun i => .slice (a' i) (pk.n i) (c' i)) (.slice af' nf cf')) ∧ Below W.heap.size W w') := fun W hb => copied_c pk a c af nf cf S W (hA11.out.pkg.below hb)
              obtain ⟨i62, hi62, hz620, hz621, hz622⟩ := info_parts info62
              go_wp2_with fail
              go_region_law
                (first
                  | (go_simp; go_at_call 47; refine (HC.out _ (below_dr1 (Below.refl _ _))).mono ?_; rintro e w12 ⟨⟨a', c', af', cf', rfl, hv12⟩, hb12⟩; have c2b := (HP11.out.below (below_tr (below_dr1 (Below.refl _ w11)) hb12)).box.cell (j := 2) rfl; have c1b := (HP11.out.below (below_tr (below_dr1 (Below.refl _ w11)) hb12)).box.cell (j := 1) rfl; have c2d := (HP11.out.below (below_tr (below_tr (below_dr1 (Below.refl _ w11)) hb12) (below1 w12 (.cells #[.string pk.name, .string pk.evr, .string pk.arch, .string pk.vendor, .slice (a' 0) (pk.n 0) (c' 0), .slice (a' 1) (pk.n 1) (c' 1), .slice (a' 2) (pk.n 2) (c' 2), .slice (a' 3) (pk.n 3) (c' 3), .slice (a' 4) (pk.n 4) (c' 4), .slice (a' 5) (pk.n 5) (c' 5), .slice (a' 6) (pk.n 6) (c' 6), .slice af' nf cf', .int .i64 (rs.length : Int)] 101)))).box.cell (j := 2) rfl; replace hv12 := Lib.hid hv12; go_simp)
                  | (refine step_append_lies _ (by rfl) (.tmp 99) (.tmp 108) 95 (by rfl) B 101 i62 _ 13 264 Tryz.underlying95 hi62 hz620 hz621 hz622 rfl (by decide) (.slice va1 KS.length vac1) KS.length xs (by rfl) (ownsRow_below hxs.out (below_tr (below_tr (below_dr1 (Below.refl _ _)) hb12) (below1 _ _))) ⟨w12.heap.size, 0, none⟩ 1 1 [.string pk.name, .string pk.evr, .string pk.arch, .string pk.vendor, .slice (a' 0) (pk.n 0) (c' 0), .slice (a' 1) (pk.n 1) (c' 1), .slice (a' 2) (pk.n 2) (c' 2), .slice (a' 3) (pk.n 3) (c' 3), .slice (a' 4) (pk.n 4) (c' 4), .slice (a' 5) (pk.n 5) (c' 5), .slice (a' 6) (pk.n 6) (c' 6), .slice af' nf cf', .int .i64 (rs.length : Int)] (by rfl) (by rfl) (World.news_of_block (cs := #[.string pk.name, .string pk.evr, .string pk.arch, .string pk.vendor, .slice (a' 0) (pk.n 0) (c' 0), .slice (a' 1) (pk.n 1) (c' 1), .slice (a' 2) (pk.n 2) (c' 2), .slice (a' 3) (pk.n 3) (c' 3), .slice (a' 4) (pk.n 4) (c' 4), .slice (a' 5) (pk.n 5) (c' 5), .slice (a' 6) (pk.n 6) (c' 6), .slice af' nf cf', .int .i64 (rs.length : Int)]) (t := 101) (fr := (0, 0)) (heap_alloc_new w12 _)) (by intro u hu; simp only [List.mem_cons, List.not_mem_nil, or_false] at hu; rcases hu with rfl | rfl | rfl | rfl | rfl | rfl | rfl | rfl | rfl | rfl | rfl | rfl | rfl <;> rfl) (by omega) (by unfold maxLen; omega) (by omega) (by have h1 := HBB.out; have h2 := HB8.out.1.size; have h3 := hM.out.size; have h4 := HM11.out.size; have h5 := hb12.size; have h6 : w11.drew.heap.size = w11.heap.size := rfl; simp; omega) (w12.heap.size + 1) (by simp) ?_; intro g2 cap2 w13 hown13 hgrow13 hat13 hlt13; have c13 := (HX13.out _ _ (below_tr (below_tr (below_dr1 (Below.refl _ w11)) hb12) (below1 _ _)) hgrow13).1.cell (j := 2) rfl; have f13 := (HX13.out _ _ (below_tr (below_tr (below_dr1 (Below.refl _ w11)) hb12) (below1 _ _)) hgrow13).1.frozen 2))
              all_goals
                have HWb : Hid (Below w11.heap.size w11 (w12.alloc (.cells #[.string pk.name, .string pk.evr, .string pk.arch, .string pk.vendor, .slice (a' 0) (pk.n 0) (c' 0), .slice (a' 1) (pk.n 1) (c' 1), .slice (a' 2) (pk.n 2) (c' 2), .slice (a' 3) (pk.n 3) (c' 3), .slice (a' 4) (pk.n 4) (c' 4), .slice (a' 5) (pk.n 5) (c' 5), .slice (a' 6) (pk.n 6) (c' 6), .slice af' nf cf', .int .i64 (rs.length : Int)] 101))) := below_tr (below_tr (below_dr1 (Below.refl _ w11)) hb12) (below1 _ _)
                have hat13' : (Value.slice va1 KS.length vac1).ownBlock = some g2 ∨ (w12.alloc (.cells #[.string pk.name, .string pk.evr, .string pk.arch, .string pk.vendor, .slice (a' 0) (pk.n 0) (c' 0), .slice (a' 1) (pk.n 1) (c' 1), .slice (a' 2) (pk.n 2) (c' 2), .slice (a' 3) (pk.n 3) (c' 3), .slice (a' 4) (pk.n 4) (c' 4), .slice (a' 5) (pk.n 5) (c' 5), .slice (a' 6) (pk.n 6) (c' 6), .slice af' nf cf', .int .i64 (rs.length : Int)] 101)).heap.size ≤ g2 := by
                  rcases hat13 with h1 | h1
                  · exact .inl h1
                  · right
                    subst h1
                    simp
                have hB11 : B ≤ w11.heap.size := by
                  have h1 := HBB.out; have h2 := HB8.out.1.size; have h3 := hM.out.size; have h4 := HM11.out.size
                  omega
                have HP14 := Lib.hid (HP11.out.all_step hxs.out hcont.out hB11 HWb.out (hv12.out.below (below1 _ _)) hown13 hgrow13 hat13' hlt13)
                have HM14 := Lib.hid (HP11.out.all_moved (x := .slice (some ⟨g2, 0, none⟩) (KS.length + 1) cap2) HWb.out hgrow13 hat13')
                have HREL : Hid (∃ role' va' lv', Moved role w8 role' (w13.setCell ⟨P, 2, none⟩ (.slice (some ⟨g2, 0, none⟩) (KS.length + 1) cap2)) ∧ PoolIn (w13.setCell ⟨P, 2, none⟩ (.slice (some ⟨g2, 0, none⟩) (KS.length + 1) cap2)) B role' P M (.slice vra rs.length vrc) va' lv' kd rs (ks ++ (r.pkgs.take (i + 1)).map (fun p => (⟨p, rs.length⟩ : KeptT))) ((ks ++ (r.pkgs.take (i + 1)).map (fun p => (⟨p, rs.length⟩ : KeptT))).map fun k => k.pkg.name)) := by
                  refine ⟨_, .slice (some ⟨g2, 0, none⟩) (KS.length + 1) cap2, lv2, hM.out.trans (HM11.out.trans HM14.out), ?_⟩
                  rw [hnext.out, List.map_append, hNS.out]
                  exact HP14.out
                clear HP14 HM14 HWb hat13' hB11 hv12 hown13 hgrow13 hat13 hlt13 c13 f13 c2b c2d c1b hb12 HL HL13 HL14 HX13 HC hxs hcont x0 x1 x2 x3 x4 x5 x6 x7 x8 x9 x10 x11 c0 c1 c2
                go_wp2_with fail
                go_roundw
                case rel => exact ⟨i + 1, by go_num, by omega, HREL.out⟩
                case measure => simp [intOf]; omega
          · have hi2 : ¬ (i : Int) < (np : Int) := by omega
            have hie : i = np := by omega
            subst hie
            have hfull : ks ++ (r.pkgs.take i).map (fun p => (⟨p, rs.length⟩ : KeptT)) = ks ++ r.pkgs.map (fun p => (⟨p, rs.length⟩ : KeptT)) := by
              rw [List.take_of_length_le (by have := hnp.out; omega)]
            rw [hfull] at hPl
            have hrf : role w.heap.size = .free := by
              by_cases hr : role w.heap.size = .free
              · exact hr
              · exact absurd (HH.out.hi _ hr) (Nat.lt_irrefl _)
            have hb8 := hM.block _ HB8.out.2.lt hrf
            have hbox := HB8.out.2.to hb8.1
            have hrf' : Hid (role' w.heap.size = .free) := hb8.2
            have p3 := hbox.cell (j := 3) rfl
            have y3 := hbox.frozen 3
            obtain ⟨w20, e20⟩ : ∃ w20, wr.setCell ⟨w.heap.size, 3, none⟩ (.slice none 0 0) = w20 := ⟨_, rfl⟩
            have HB20 : Hid (BoxN w20 w.heap.size [.string r.name, .int .i64 r.prio, .bool r.inst, .slice none 0 0] 40) := by
              rw [← e20]
              exact hbox.set 3 _
            have HP20 : Hid (PoolIn w20 B role' P M (.slice vra rs.length vrc) va' lv' kd rs (ks ++ r.pkgs.map (fun p => (⟨p, rs.length⟩ : KeptT))) ((ks ++ r.pkgs.map (fun p => (⟨p, rs.length⟩ : KeptT))).map fun k => k.pkg.name)) := by
              rw [← e20]
              exact hPl.keep (by rw [set_size]; exact Nat.le_refl _) (fun b hr => set_other _ (fun e => by rw [e] at hr; exact hr hrf'.out))
            have HM20 : Hid (Moved role w role' w20) := by
              rw [← e20]
              exact ((Moved.of_below HB8.out.1).trans hM).set (Nat.le_refl _) 3 _
            clear hM hPl hb8 hbox hfull HB8 HP8
            have HLE : Hid (∀ W : World, W.heap[w.heap.size]? = w20.heap[w.heap.size]? → W.cell? ⟨w.heap.size, 0, none⟩ = some (.string r.name) ∧ W.cell? ⟨w.heap.size, 1, none⟩ = some (.int .i64 r.prio) ∧ W.cell? ⟨w.heap.size, 2, none⟩ = some (.bool r.inst) ∧ W.cell? ⟨w.heap.size, 3, none⟩ = some (.slice none 0 0)) := fun W hb => by
              have h1 := HB20.out.to hb
              exact ⟨h1.cell (j := 0) rfl, h1.cell (j := 1) rfl, h1.cell (j := 2) rfl, h1.cell (j := 3) rfl⟩
            have x0 := HB20.out.cell (j := 0) rfl
            have x1 := HB20.out.cell (j := 1) rfl
            have x2 := HB20.out.cell (j := 2) rfl
            have x3 := HB20.out.cell (j := 3) rfl
            have c0 := HP20.out.box.cell (j := 0) rfl
            have c1 := HP20.out.box.cell (j := 1) rfl
            have c1b := (HP20.out.below (below1 w20 (.cells #[.string r.name, .int .i64 r.prio, .bool r.inst, .slice none 0 0] 40))).box.cell (j := 1) rfl
            have HX : Hid (∀ W, (w20.alloc (.cells #[.string r.name, .int .i64 r.prio, .bool r.inst, .slice none 0 0] 40)).drew.grownBy W (Value.slice vra rs.length vrc).ownBlock → W.heap[P]? = w20.heap[P]? ∧ W.heap[w.heap.size]? = w20.heap[w.heap.size]?) := fun W hg => by
              have hne : ∀ b, role' b ≠ .repos → some b ≠ (Value.slice vra rs.length vrc).ownBlock := fun b hr e => hr (HP20.out.rR b e.symm)
              exact ⟨grown_below (below_dr1 (below1 _ _)) hg HP20.out.box.lt (hne P (by rw [HP20.out.rP]; simp)), grown_below (below_dr1 (below1 _ _)) hg HB20.out.lt (hne _ (by rw [hrf'.out]; simp))⟩
            have hPne : Hid (w.heap.size ≠ P) := fun e => by have h3 := hrf'.out; rw [e, HP20.out.rP] at h3; cases h3
            obtain ⟨i34, hi34, hz340, hz341, hz342⟩ := info_parts info34
            have hB20 : Hid (B ≤ w20.heap.size) := Nat.le_trans HBB.out HM20.out.size
            go_wp2_with fail
            go_region_law
              ((refine step_append_lies _ (by rfl) (.tmp 118) (.tmp 120) 31 (by rfl) B 40 i34 _ 4 56 Tryz.underlying31 hi34 hz340 hz341 hz342 rfl (by decide) (.slice vra rs.length vrc) rs.length (rs.flatMap repoCells) (by rfl) (ownsRow_below HP20.out.rrow (below_dr1 (below1 _ _))) ⟨w20.heap.size, 0, none⟩ 1 1 [.string r.name, .int .i64 r.prio, .bool r.inst, .slice none 0 0] (by rfl) (by rfl) (World.news_of_block (cs := #[.string r.name, .int .i64 r.prio, .bool r.inst, .slice none 0 0]) (t := 40) (fr := (0, 0)) (heap_alloc_new w20 _)) (by intro u hu; simp only [List.mem_cons, List.not_mem_nil, or_false] at hu; rcases hu with rfl | rfl | rfl | rfl <;> rfl) (by omega) (by unfold maxLen; omega) (by omega) (by have := hB20.out; simp; omega) (w20.heap.size + 1) (by simp) ?_; intro g cap w21 hown21 hgrow21 hat21 hlt21; have c21 := (HP20.out.box.to (HX.out _ hgrow21).1).cell (j := 1) rfl; have f21 := (HP20.out.box.to (HX.out _ hgrow21).1).frozen 1))
            all_goals
              have hat21' : (Value.slice vra rs.length vrc).ownBlock = some g ∨ (w20.alloc (.cells #[.string r.name, .int .i64 r.prio, .bool r.inst, .slice none 0 0] 40)).drew.heap.size ≤ g := by
                rcases hat21 with h1 | h1
                · exact .inl h1
                · right
                  subst h1
                  show (w20.alloc (.cells #[.string r.name, .int .i64 r.prio, .bool r.inst, .slice none 0 0] 40)).heap.size ≤ _
                  simp
              have HP22 := Lib.hid ((HP20.out.below (w' := (w20.alloc (.cells #[.string r.name, .int .i64 r.prio, .bool r.inst, .slice none 0 0] 40)).drew) (below_dr1 (below1 _ _))).repo_step (r := ⟨r.name, r.prio, r.inst⟩) hown21 hgrow21 hat21' hlt21)
              have HM22 := Lib.hid (HM20.out.trans ((Moved.of_below (role := role') (w' := (w20.alloc (.cells #[.string r.name, .int .i64 r.prio, .bool r.inst, .slice none 0 0] 40)).drew) (below_dr1 (below1 w20 _))).trans ((HP20.out.below (w' := (w20.alloc (.cells #[.string r.name, .int .i64 r.prio, .bool r.inst, .slice none 0 0] 40)).drew) (below_dr1 (below1 _ _))).repo_moved (x := .slice (some ⟨g, 0, none⟩) (rs.length + 1) cap) hgrow21 hat21')))
              clear hown21 hgrow21 hat21 hlt21 hat21'
              go_wp2_with fail
              exact HYES.out hQ0.out _ _ _ _ _ HM22.out HP22.out
end Go.Proofs.YtbdankpkdhhlmaaGreat
