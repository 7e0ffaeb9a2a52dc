/-
  The document's Add: the walk. Helper text; the conditions are those typed.
-/
import Derived.Test.YtbdankpkdhhlmaaGreatRAddA
import Derived.Test.YtbdankpkdhhlmaaGreatAddC
import Derived.Deep.CutBlock
import Derived.Deep.CutRange
namespace Go.Proofs.YtbdankpkdhhlmaaGreat
set_option linter.unusedVariables false
set_option linter.unusedSimpArgs false
open Go.RowKit Go.Maps

/-- What the document's Add leaves. -/
def RAddPost (w : World) (B : Nat) (S : Nat → Prop) (Q : Nat) (vr va : Value) (kd : Int) (rl : List RepoT) (rs : List RepoH) (ks : List KeptT) (ats : List (Nat × Nat)) (r : RepoT) (e : Ending) (w' : World) : Prop :=
  e = .returned (.int .i64 (addErr rs ks r)) ∧ ∃ vr' va', MMv (MB Q vr va) w (MB Q vr' va') w' ∧
    MIn w' B S Q vr' va' kd (if addErr rs ks r = 0 then rl ++ [r] else rl) (if addErr rs ks r = 0 then ats ++ (List.range r.pkgs.length).map (fun i => (rl.length, i)) else ats)

theorem info66 : (Tryz.prog.info? 87).map (fun i => (i.zero, i.size, i.bytes)) = some (some (.agg #[.int .i64 0, .int .i64 0]), 2, 16) := by kernel_rfl
/-- Of the repositories that there are: names, which is installed. -/
theorem Built.names {rl : List RepoT} {rs : List RepoH} {ks : List KeptT} {ats : List (Nat × Nat)} (h : Built rl rs ks ats) (nm : ByteArray) : (∀ k (hk : k < rl.length), rl[k].name = nm → (rs.any fun x => decide (x.name = nm)) = true) ∧ ((∀ k (hk : k < rl.length), rl[k].name ≠ nm) → (rs.any fun x => decide (x.name = nm)) = false) := by
  constructor
  · intro k hk he
    have h1 := h.head k hk
    have hm := List.mem_of_getElem? h1
    exact List.any_eq_true.2 ⟨_, hm, by simp [he]⟩
  · intro hne
    rw [List.any_eq_false]
    intro x hx
    obtain ⟨k, hk, e⟩ := List.getElem_of_mem hx
    have hk' : k < rl.length := by rw [← h.len.1]; exact hk
    have h1 := h.head k hk'
    rw [List.getElem?_eq_getElem hk] at h1
    have h2 := Option.some.inj h1
    rw [← e, h2]
    simpa using hne k hk'
theorem Built.insts {rl : List RepoT} {rs : List RepoH} {ks : List KeptT} {ats : List (Nat × Nat)} (h : Built rl rs ks ats) : (∀ k (hk : k < rl.length), rl[k].inst = true → (rs.any fun x => x.inst) = true) ∧ ((∀ k (hk : k < rl.length), rl[k].inst = false) → (rs.any fun x => x.inst) = false) := by
  constructor
  · intro k hk he
    have h1 := h.head k hk
    have hm := List.mem_of_getElem? h1
    exact List.any_eq_true.2 ⟨_, hm, he⟩
  · intro hne
    rw [List.any_eq_false]
    intro x hx
    obtain ⟨k, hk, e⟩ := List.getElem_of_mem hx
    have hk' : k < rl.length := by rw [← h.len.1]; exact hk
    have h1 := h.head k hk'
    rw [List.getElem?_eq_getElem hk] at h1
    have h2 := Option.some.inj h1
    rw [← e, h2]
    simpa using hne k hk'

set_option maxHeartbeats 8000000 in
set_option maxRecDepth 100000 in
/-- The document's Add. -/
theorem radd_c (w : World) (B : Nat) (S : Nat → Prop) (Q : Nat) (vr va : Value) (kd : Int) (rl : List RepoT) (rs : List RepoH) (ks : List KeptT) (ats : List (Nat × Nat)) (r : RepoT) (ap : Option Addr) (np cp : Nat)
    (h : MIn w B S Q vr va kd rl ats) (hb : Built rl rs ks ats) (hB : B ≤ w.heap.size) (hrs : rl.length ≤ 8) (hks : ats.length ≤ 200) (hr : PkgsV w S r.pkgs (.slice ap np cp)) :
    Calls Tryz.prog 38 #[.pointer (some ⟨Q, 0, none⟩), .agg #[.string r.name, .int .i64 r.prio, .bool r.inst, .slice ap np cp]] w (RAddPost w B S Q vr va kd rl rs ks ats r) := by
  obtain ⟨hnp, hnb, hpk⟩ := pkgs_at hr
  obtain ⟨POST, hPOST⟩ : ∃ POST, RAddPost w B S Q vr va kd rl rs ks ats r = POST := ⟨_, rfl⟩
  rw [hPOST]
  obtain ⟨E, hE⟩ : ∃ E, addErr rs ks r = E := ⟨_, rfl⟩
  have HREF : Hid (E ≠ 0 → ∀ w', Below w.heap.size w w' → POST (.returned (.int .i64 E)) w') := by
    intro h0 w' hb
    rw [← hPOST]
    refine ⟨by rw [hE], vr, va, .of_below hb, ?_⟩
    rw [hE, if_neg h0, if_neg h0]
    exact h.below hb
  have HYES : Hid (E = 0 → ∀ w' vr' va', MMv (MB Q vr va) w (MB Q vr' va') w' → MIn w' B S Q vr' va' kd (rl ++ [r]) (ats ++ (List.range r.pkgs.length).map (fun i => (rl.length, i))) → POST (.returned (.int .i64 0)) w') := by
    intro h0 w' vr' va' hm hp
    rw [← hPOST]
    refine ⟨by rw [hE, h0], vr', va', hm, ?_⟩
    rw [hE, if_pos h0, if_pos h0]
    exact hp
  have HW : AddWays E (nameB r.name) (rs.any fun x => decide (x.name = r.name)) (rs.any fun x => x.inst) r.inst (8 ≤ rl.length ∨ 200 < ats.length + r.pkgs.length) (firstBad r.pkgs) := by
    rw [← hE, ← hb.len.1, ← hb.len.2]
    unfold addErr AddWays
    refine ⟨fun h1 => if_pos (.inl h1), fun h1 h2 => if_pos (.inr h2), fun h1 h2 h3 h4 => ?_, fun h1 h2 h3 h4 => ?_, fun h1 h2 h3 h4 => ?_⟩
    · rw [if_neg (by simp [h1, h2]), if_pos (by rw [h3, h4]; rfl)]
    · rw [if_neg (by simp [h1, h2]), if_neg (by rcases h3 with h3 | h3 <;> simp [h3]), if_pos h4]
    · rw [if_neg (by simp [h1, h2]), if_neg (by rcases h3 with h3 | h3 <;> simp [h3]), if_neg h4]
  have HNM := Lib.hid (hb.names r.name)
  have HIN := Lib.hid hb.insts
  rw [← hnp] at HW
  have HHR := Lib.hid hr
  have HPK := Lib.hid hpk
  have HNP := Lib.hid hnp
  have HH := Lib.hid h
  have HBB := Lib.hid hB
  obtain ⟨ra, rc, hvr⟩ := h.rform
  obtain ⟨aa, ac, hva⟩ := h.aform
  clear hPOST hE hb hpk hr hnp hB
  generalize (rs.any fun x => decide (x.name = r.name)) = bd at HW HNM
  generalize (rs.any fun x => x.inst) = bi at HW HIN
  subst hvr hva
  have HREP : Hid (∀ k, k < rl.length → ∃ G rn ri, ra = some ⟨G, 0, none⟩ ∧ G < w.heap.size ∧ rl[k]?.map (fun x => (x.name, x.inst)) = some (rn, ri) ∧ ∀ W : World, W.heap[G]? = w.heap[G]? → W.cell? ⟨G, k * 4, none⟩ = some (.string rn) ∧ W.cell? ⟨G, k * 4 + 2, none⟩ = some (.bool ri)) := by
    intro k hk
    obtain ⟨G, c, ap, np, cp, e, h1, h2, h3, h4⟩ := HH.out.repo hk
    injection e with e1 e2 e3
    refine ⟨G, rl[k].name, rl[k].inst, e1, h1, by rw [List.getElem?_eq_getElem hk]; rfl, fun W hW => ?_⟩
    have h5 := h4 W hW
    exact ⟨h5 0 _ rfl, h5 2 _ rfl⟩
  clear h
  obtain ⟨m, hm⟩ : ∃ m, rl.length = m := ⟨_, rfl⟩
  obtain ⟨na, hna⟩ : ∃ na, ats.length = na := ⟨_, rfl⟩
  have HM := Lib.hid hm
  have HNA := Lib.hid hna
  have HBOX : Hid (BoxN w Q [.int .i64 kd, .slice ra m rc, .slice aa na ac] 37) := by
    have := HH.out.box
    rw [hm, hna] at this
    exact this
  rw [hm] at hrs HW
  rw [hna] at hks HW
  clear hm hna
  have HN := Lib.hid (rname_c r.name)
  generalize hbn : nameB r.name = bn at HN HW
  clear hbn
  obtain ⟨w1, e1⟩ : ∃ w1, w.alloc (.cells #[.string r.name, .int .i64 r.prio, .bool r.inst, .slice ap np cp] 40) = w1 := ⟨_, rfl⟩
  have HB1 : Hid (Below w.heap.size w w1 ∧ BoxN w1 w.heap.size [.string r.name, .int .i64 r.prio, .bool r.inst, .slice ap np cp] 40) := by
    rw [← e1]
    exact ⟨below1 _ _, boxN_alloc _ _ _⟩
  have p0 := HB1.out.2.cell (j := 0) rfl
  go_enter Tryz.func38, Tryz.ntmps38
  go_wp2_with fail
  refine (HN.out w1).mono ?_
  rintro e w2 ⟨rfl, hw2⟩
  subst hw2
  clear e1
  cases bn with
  | false =>
    have hq := HW.1 rfl
    subst hq
    go_wp2_with fail
    exact HREF.out (by decide) _ HB1.out.1
  | true =>
    have b1 := (HBOX.out.below HB1.out.1).cell (j := 1) rfl
    go_wp2_with fail
    clear b1 p0
    go_loopw [6] (fun vi wr => ∃ i : Nat, vi = .int .i64 i ∧ i ≤ m ∧ Hid (∀ j, j < i → ∀ x, rl[j]? = some x → x.name ≠ r.name) ∧ Hid (Below w.heap.size w wr ∧ BoxN wr w.heap.size [.string r.name, .int .i64 r.prio, .bool r.inst, .slice ap np cp] 40)) (fun vi _ => m - (intOf vi).toNat)
    case atStart => exact ⟨0, rfl, Nat.zero_le _, fun j h0 => absurd h0 (Nat.not_lt_zero _), HB1.out⟩
    case round =>
      obtain ⟨i, rfl, him, HG, HT⟩ := hrel
      have b1 := (HBOX.out.below HT.out.1).cell (j := 1) rfl
      have p0 := HT.out.2.cell (j := 0) rfl
      by_cases hlt : i < m
      · have hi1 : (i : Int) < (m : Int) := by omega
        obtain ⟨G, rn, ri, rfl, hGlt, hGe, hGc⟩ := HREP.out i (by have := HM.out; omega)
        have hbb := HT.out.1.block G hGlt
        obtain ⟨g0, g2⟩ := hGc wr hbb
        have hGE : Hid (∃ x, rl[i]? = some x ∧ x.name = rn) := by
          cases hx : rl[i]? with
          | none => rw [hx] at hGe; cases hGe
          | some x => rw [hx] at hGe; exact ⟨x, rfl, by have := Option.some.inj hGe; exact (Prod.mk.inj this).1⟩
        clear hGc hGe hbb hGlt
        by_cases he : rn = r.name
        · have hbd : bd = true := by
            obtain ⟨x, hx, hxn⟩ := hGE.out
            have hl := (List.getElem?_eq_some_iff.1 hx).1
            rw [List.getElem?_eq_getElem hl] at hx
            exact HNM.out.1 i hl (by rw [Option.some.inj hx, hxn, he])
          have hq := HW.2.1 rfl hbd
          have HEE := Lib.hid hq
          clear hq
          have hd : (rn.toList == r.name.toList) = true := by rw [beqS]; exact decide_eq_true he
          go_wp2_with fail
          go_quiet (fail)
          go_wp2_with fail
          have := HREF.out (by rw [HEE.out]; decide) _ (below_drewN HT.out.1 nq)
          rw [HEE.out] at this
          exact this
        · have hd : (rn.toList == r.name.toList) = false := by rw [beqS]; exact decide_eq_false he
          have HG2 : Hid (∀ j, j < i + 1 → ∀ x, rl[j]? = some x → x.name ≠ r.name) := by
            intro j hj x hx
            rcases Nat.lt_succ_iff_lt_or_eq.1 hj with h1 | h1
            · exact HG.out j h1 x hx
            · subst h1
              obtain ⟨y, hy, hyn⟩ := hGE.out
              rw [hy] at hx
              cases hx
              rw [hyn]
              exact he
          go_wp2_with fail
          go_quiet (fail)
          go_wp2_with fail
          go_roundw
          case rel => exact ⟨i + 1, by go_num, by omega, HG2.out, below_drewN HT.out.1 nq, HT.out.2⟩
          case measure => simp [intOf]; omega
      · have hi1 : ¬ (i : Int) < (m : Int) := by omega
        have HBD : Hid (bd = false) := HNM.out.2 (fun k hk e => HG.out k (by have := HM.out; omega) rl[k] (List.getElem?_eq_getElem hk) e)
        clear HG HB1 w1
        have p2 := HT.out.2.cell (j := 2) rfl
        go_wp2_with fail
        clear b1 p0 p2
        go_loopw [7] (fun vi wz => ∃ i : Nat, vi = .int .i64 i ∧ i ≤ m ∧ Hid (∀ j, j < i → ∀ x, rl[j]? = some x → r.inst = false ∨ x.inst = false) ∧ Hid (Below w.heap.size w wz ∧ BoxN wz w.heap.size [.string r.name, .int .i64 r.prio, .bool r.inst, .slice ap np cp] 40)) (fun vi _ => m - (intOf vi).toNat)
        case atStart => exact ⟨0, rfl, Nat.zero_le _, fun j h0 => absurd h0 (Nat.not_lt_zero _), HT.out⟩
        case round =>
          clear HT hi1 hlt him
          obtain ⟨i, rfl, him, HG, HT⟩ := hrel
          have b1 := (HBOX.out.below HT.out.1).cell (j := 1) rfl
          have p2 := HT.out.2.cell (j := 2) rfl
          by_cases hlt : i < m
          · have hi1 : (i : Int) < (m : Int) := by omega
            obtain ⟨G, rn, ri, rfl, hGlt, hGe, hGc⟩ := HREP.out i (by have := HM.out; omega)
            have hbb := HT.out.1.block G hGlt
            obtain ⟨g0, g2⟩ := hGc wr hbb
            have hGE : Hid (∃ x, rl[i]? = some x ∧ x.inst = ri) := by
              cases hx : rl[i]? with
              | none => rw [hx] at hGe; cases hGe
              | some x => rw [hx] at hGe; exact ⟨x, rfl, by have := Option.some.inj hGe; exact (Prod.mk.inj this).2⟩
            clear hGc hGe hbb hGlt g0
            have HG2 : Hid (r.inst = false ∨ ri = false → ∀ j, j < i + 1 → ∀ x, rl[j]? = some x → r.inst = false ∨ x.inst = false) := by
              intro h0 j hj x hx
              rcases Nat.lt_succ_iff_lt_or_eq.1 hj with h1 | h1
              · exact HG.out j h1 x hx
              · subst h1
                obtain ⟨y, hy, hyn⟩ := hGE.out
                rw [hy] at hx
                cases hx
                rw [hyn]
                exact h0
            obtain ⟨rx, hri⟩ : ∃ rx, r.inst = rx := ⟨_, rfl⟩
            rw [hri] at p2
            have HRI := Lib.hid hri
            clear hri
            cases rx with
            | false =>
              go_wp2_with fail
              go_roundw
              case rel => exact ⟨i + 1, by go_num, by omega, HG2.out (.inl HRI.out), HT.out⟩
              case measure => simp [intOf]; omega
            | true =>
              cases ri with
              | false =>
                go_wp2_with fail
                go_roundw
                case rel => exact ⟨i + 1, by go_num, by omega, HG2.out (.inr rfl), HT.out⟩
                case measure => simp [intOf]; omega
              | true =>
                have hbi : bi = true := by
                  obtain ⟨x, hx, hxn⟩ := hGE.out
                  have hl := (List.getElem?_eq_some_iff.1 hx).1
                  rw [List.getElem?_eq_getElem hl] at hx
                  exact HIN.out.1 i hl (by rw [Option.some.inj hx, hxn])
                have hq := HW.2.2.1 rfl HBD.out HRI.out hbi
                have HEE := Lib.hid hq
                clear hq
                go_wp2_with fail
                have := HREF.out (by rw [HEE.out]; decide) _ HT.out.1
                rw [HEE.out] at this
                exact this
          · have hi1 : ¬ (i : Int) < (m : Int) := by omega
            have HBI : Hid (r.inst = false ∨ bi = false) := by
              cases hri : r.inst with
              | false => exact .inl rfl
              | true =>
                refine .inr (HIN.out.2 fun k hk => ?_)
                rcases HG.out k (by have := HM.out; omega) rl[k] (List.getElem?_eq_getElem hk) with h1 | h1
                · rw [hri] at h1; cases h1
                · exact h1
            have HMANY := Lib.hid (HW.2.2.2.1 rfl HBD.out HBI.out)
            have HOKW := Lib.hid (HW.2.2.2.2 rfl HBD.out HBI.out)
            clear HW HG p2
            have b2 := (HBOX.out.below HT.out.1).cell (j := 2) rfl
            have p3 := HT.out.2.cell (j := 3) rfl
            have hnp40 : np ≤ 549755813888 := by omega
            by_cases h8 : 8 ≤ m
            · have hd : decide ((8 : Int) ≤ (m : Int)) = true := decide_eq_true (by omega)
              have HEE := Lib.hid (HMANY.out (.inl h8))
              go_wp2_with fail
              go_quiet (fail)
              go_wp2_with fail
              have := HREF.out (by rw [HEE.out]; decide) _ (below_drewN HT.out.1 nq)
              rw [HEE.out] at this
              exact this
            · have hd : decide ((8 : Int) ≤ (m : Int)) = false := decide_eq_false (by omega)
              by_cases h2 : 200 < na + np
              · have hd2 : (200 : Int) < (na : Int) + (np : Int) := by omega
                have hd3 : decide ((200 : Int) < (na : Int) + (np : Int)) = true := decide_eq_true hd2
                have HEE := Lib.hid (HMANY.out (.inr h2))
                go_wp2_with fail
                go_quiet (fail)
                go_wp2_with fail
                have := HREF.out (by rw [HEE.out]; decide) _ (below_drewN HT.out.1 nq)
                rw [HEE.out] at this
                exact this
              · have hd3 : decide ((200 : Int) < (na : Int) + (np : Int)) = false := decide_eq_false (by omega)
                have HFB := Lib.hid (HOKW.out (by omega))
                clear HMANY HOKW
                go_wp2_with fail
                go_quiet (fail)
                go_wp2_with fail
                obtain ⟨w5, hw5⟩ : ∃ w5, wr.drewN nq = w5 := ⟨_, rfl⟩
                have HT5 : Hid (Below w.heap.size w w5 ∧ BoxN w5 w.heap.size [.string r.name, .int .i64 r.prio, .bool r.inst, .slice ap np cp] 40) := by
                  rw [← hw5]
                  exact ⟨below_drewN HT.out.1 nq, HT.out.2⟩
                rw [hw5]
                clear hw5 b1 b2 p3 hd hd3
                go_loopw [8] (fun vi wz => ∃ i : Nat, vi = .int .i64 i ∧ i ≤ np ∧ Hid (∀ j (hj : j < r.pkgs.length), j < i → pkgCheck r.pkgs[j] = 0) ∧ Hid (Below w.heap.size w wz ∧ BoxN wz w.heap.size [.string r.name, .int .i64 r.prio, .bool r.inst, .slice ap np cp] 40)) (fun vi _ => np - (intOf vi).toNat)
                case atStart => exact ⟨0, rfl, Nat.zero_le _, fun j h h0 => absurd h0 (Nat.not_lt_zero _), HT5.out⟩
                case round =>
                  clear HT5 HT hi1 hlt him
                  obtain ⟨i, rfl, hinp, HG, HT⟩ := hrel
                  have p3 := HT.out.2.cell (j := 3) rfl
                  by_cases hlt : i < np
                  · have hi1 : (i : Int) < (np : Int) := by omega
                    have hlen : i < r.pkgs.length := by have := HNP.out; omega
                    obtain ⟨b, off, rfl, hs, hi⟩ := HPK.out (by omega)
                    obtain ⟨a, c, af, nf, cf, hA⟩ := hi i hlen
                    have hNO : pkgCheck r.pkgs[i] ≠ 0 → E = pkgCheck r.pkgs[i] := fun h => by
                      rw [HFB.out]
                      exact firstBad_at r.pkgs i hlen (fun j hj hji => HG.out j hj hji) h
                    have hOK : pkgCheck r.pkgs[i] = 0 → ∀ j (hj : j < r.pkgs.length), j < i + 1 → pkgCheck r.pkgs[j] = 0 := fun h j hj hji => by
                      rcases Nat.lt_succ_iff_lt_or_eq.1 hji with h1 | h1
                      · exact HG.out j hj h1
                      · subst h1; exact h
                    replace hNO := Lib.hid hNO
                    replace hOK := Lib.hid hOK
                    replace hA := Lib.hid (hA.below HT.out.1)
                    generalize r.pkgs[i] = pk at hA hNO hOK
                    clear hi hs
                    have q0 : wr.cell? ⟨b, off + i * 12, none⟩ = some _ := hA.out.cells 0 _ rfl
                    have q1 : wr.cell? ⟨b, off + i * 12 + 1, none⟩ = some _ := hA.out.cells 1 _ rfl
                    have q2 : wr.cell? ⟨b, off + i * 12 + 2, none⟩ = some _ := hA.out.cells 2 _ rfl
                    have q3 : wr.cell? ⟨b, off + i * 12 + 3, none⟩ = some _ := hA.out.cells 3 _ rfl
                    have q4 : wr.cell? ⟨b, off + i * 12 + 4, none⟩ = some _ := hA.out.cells 4 _ rfl
                    have q5 : wr.cell? ⟨b, off + i * 12 + 5, none⟩ = some _ := hA.out.cells 5 _ rfl
                    have q6 : wr.cell? ⟨b, off + i * 12 + 6, none⟩ = some _ := hA.out.cells 6 _ rfl
                    have q7 : wr.cell? ⟨b, off + i * 12 + 7, none⟩ = some _ := hA.out.cells 7 _ rfl
                    have q8 : wr.cell? ⟨b, off + i * 12 + 8, none⟩ = some _ := hA.out.cells 8 _ rfl
                    have q9 : wr.cell? ⟨b, off + i * 12 + 9, none⟩ = some _ := hA.out.cells 9 _ rfl
                    have q10 : wr.cell? ⟨b, off + i * 12 + 10, none⟩ = some _ := hA.out.cells 10 _ rfl
                    have q11 : wr.cell? ⟨b, off + i * 12 + 11, none⟩ = some _ := hA.out.cells 11 _ rfl
                    have HC := Lib.hid (rcheck_c pk a c af nf cf S wr hA.out.pkg)
                    generalize pkgCheck pk = z at HC hNO hOK
                    go_wp2_with fail
                    refine HC.out.mono ?_
                    rintro e w6 ⟨rfl, hb6⟩
                    have HT6 : Hid (Below w.heap.size w w6 ∧ BoxN w6 w.heap.size [.string r.name, .int .i64 r.prio, .bool r.inst, .slice (some ⟨b, off, none⟩) np cp] 40) := ⟨below_tr HT.out.1 hb6, HT.out.2.below hb6⟩
                    clear hb6 HC
                    by_cases hz : z = 0
                    · subst hz
                      have HOK := Lib.hid (hOK.out rfl)
                      go_wp2_with fail
                      go_roundw
                      case rel => exact ⟨i + 1, by go_num, by omega, HOK.out, HT6.out⟩
                      case measure => simp [intOf]; omega
                    · have hz1 : (z != 0) = true := by simp [hz]
                      have HEE := Lib.hid (hNO.out hz)
                      go_wp2_with fail
                      have := HREF.out (by rw [HEE.out]; exact hz) _ HT6.out.1
                      rw [HEE.out] at this
                      exact this
                  · have hi1 : ¬ (i : Int) < (np : Int) := by omega
                    have HE0 : Hid (E = 0) := by
                      rw [HFB.out]
                      exact firstBad_none _ fun j hj => HG.out j hj (by have := HNP.out; omega)
                    clear HG HFB
                    go_wp2_with fail
                    clear p3 HREF
                    have HDM : Hid (¬ MB Q (.slice ra m rc) (.slice aa na ac) w.heap.size ∧ w.heap.size < wr.heap.size ∧ B ≤ wr.heap.size) := by
                      refine ⟨fun hm => ?_, HT.out.2.lt, Nat.le_trans HBB.out HT.out.1.size⟩
                      have := (HH.out.lt (b := w.heap.size) (by rw [HM.out, HNA.out]; exact hm)).2
                      omega
                    have HH5 : Hid (MIn wr B S Q (.slice ra m rc) (.slice aa na ac) kd rl ats) := by
                      have := HH.out.below HT.out.1
                      rw [HM.out, HNA.out] at this
                      exact this
                    obtain ⟨ws, hws⟩ : ∃ ws, wr = ws := ⟨_, rfl⟩
                    have HWS : Hid (Below w.heap.size w ws ∧ BoxN ws w.heap.size [.string r.name, .int .i64 r.prio, .bool r.inst, .slice ap np cp] 40) := by
                      rw [← hws]; exact HT.out
                    rw [hws] at HH5 HDM ⊢
                    clear hws
                    go_loopw [10] (fun vi wz => ∃ i : Nat, vi = .int .i64 i ∧ i ≤ np ∧ Hid (∃ va', MMv (MB Q (.slice ra m rc) (.slice aa na ac)) ws (MB Q (.slice ra m rc) va') wz ∧ MIn wz B S Q (.slice ra m rc) va' kd rl (ats ++ (List.range i).map (fun j => (rl.length, j))))) (fun vi _ => np - (intOf vi).toNat)
                    case atStart => exact ⟨0, rfl, Nat.zero_le _, _, MMv.refl _ _, by simpa using HH5.out⟩
                    case round =>
                      clear HH5 HT hi1 hlt hinp
                      obtain ⟨i, rfl, hinp, HM0⟩ := hrel
                      obtain ⟨va', hmm, hmi⟩ := HM0.out
                      have HMM := Lib.hid hmm
                      have HMI := Lib.hid hmi
                      clear hmm hmi HM0
                      obtain ⟨al, hal⟩ : ∃ al, (ats ++ (List.range i).map (fun j => (rl.length, j))) = al := ⟨_, rfl⟩
                      have hall : al.length = na + i := by rw [← hal, List.length_append, List.length_map, List.length_range, HNA.out]
                      rw [hal] at HMI
                      obtain ⟨a', c', rfl⟩ := HMI.out.aform
                      rw [hall] at HMI HMM
                      have hQ1 := HMI.out.box.cell (j := 1) rfl
                      have hQ2 := HMI.out.box.cell (j := 2) rfl
                      have HD : Hid (BoxN wr w.heap.size [.string r.name, .int .i64 r.prio, .bool r.inst, .slice ap np cp] 40) := HWS.out.2.to (HMM.out.block _ HDM.out.2.1 HDM.out.1).1
                      have p3 := HD.out.cell (j := 3) rfl
                      have HBW : Hid (B ≤ wr.heap.size) := Nat.le_trans HDM.out.2.2 HMM.out.size
                      have hms : m ≤ 8 := hrs
                      by_cases hlt : i < np
                      · have hi1 : (i : Int) < (np : Int) := by omega
                        have HAL := Lib.hid hal
                        have HALL := Lib.hid hall
                        obtain ⟨ys, hys, hyc⟩ := HMI.out.arow
                        rw [hall] at hys
                        have HYS := Lib.hid hys
                        have HYC := Lib.hid hyc
                        have HQC : Hid (∀ W : World, W.heap[Q]? = wr.heap[Q]? → BoxN W Q [.int .i64 kd, .slice ra m rc, .slice a' (na + i) c'] 37) := fun W hW => by
                          have h1 := HMI.out.box.to hW
                          exact h1
                        clear hal hall hys hyc hQ1 hQ2
                        go_upto_region 25 with fail
                        refine wp_region_ord (fun W => W.heap[Q]? = wr.heap[Q]?) 16 [(true, 0), (true, 1), (true, 2), (true, 3), (true, 4), (true, 5), (true, 6), (true, 7), (true, 8), (true, 9), (true, 10), (true, 11), (false, 12), (false, 13), (false, 14), (false, 15), (false, 16)] (by kernel_rfl) (by kernel_rfl) (fun _ _ d _ _ h => by cases d <;> exact h) rfl ?_
                        intro wd hwd hS
                        simp only [ordOps, List.map_cons, List.map_nil, Array.getD_eq_getD_getElem?, List.getElem?_toArray, List.getElem?_cons_succ, List.getElem?_cons_zero, Option.getD_some]
                        iterate 12 (refine wpOrd_q rfl _ (fun w' hS' K hK => (by have q1 := (HQC.out w' hS').cell (j := 1) rfl; have q2 := (HQC.out w' hS').cell (j := 2) rfl; clear hS'; go_simp; exact hK)) (fun K hK => ?_); go_simp; refine hK _ ?_; clear hK K)
                        have HBd : Hid (Below wr.heap.size wr wd) := by rw [hwd.out]; exact below_dr1 (Below.refl _ _)
                        obtain ⟨wa, hwa⟩ : ∃ wa, wd.alloc (.cells #[.int .i64 (m : Int), .int .i64 (i : Int)] 87) = wa := ⟨_, rfl⟩
                        have HBa : Hid (Below wr.heap.size wr wa ∧ BoxN wa wd.heap.size [.int .i64 (m : Int), .int .i64 (i : Int)] 87) := by
                          rw [← hwa]
                          exact ⟨below_tr HBd.out (below1 wd _), boxN_alloc _ _ _⟩
                        have HQLT : Hid (Q < wr.heap.size) := HMI.out.box.lt
                        refine wpOrd_l rfl (fun K hK => ?_)
                        go_simp
                        refine hK _ _ ⟨fun _ => HBa.out.1.block Q HQLT.out, ?_⟩
                        clear hK K hwa
                        obtain ⟨i6, hi6, hz60, hz61, hz62⟩ := info_parts info66
                        have HROW : Hid (wa.ownsRow B 87 2 (.slice a' (na + i) c') (na + i) ys) := ownsRow_below HYS.out HBa.out.1
                        have HBBa : Hid (B ≤ wa.heap.size) := Nat.le_trans HBW.out HBa.out.1.size
                        refine wpOrd_l rfl (fun K hK => ?_)
                        refine wp_append_lies _ (.tmp 102) (.tmp 110) 35 rfl B 87 i6 _ 2 16 Tryz.underlying35 hi6 hz60 hz61 hz62 rfl (by decide) (.slice a' (na + i) c') (na + i) ys rfl HROW.out ⟨wd.heap.size, 0, none⟩ 1 1 [.int .i64 (m : Int), .int .i64 (i : Int)] rfl rfl (World.news_of_block (cs := #[.int .i64 (m : Int), .int .i64 (i : Int)]) (t := 87) (fr := (0, 0)) HBa.out.2) (by intro u hu; simp only [List.mem_cons, List.not_mem_nil, or_false] at hu; rcases hu with rfl | rfl <;> rfl) (by omega) (by unfold maxLen; omega) (by omega) HBBa.out _ rfl ?_
                        intro g cap w9 hown hgrow hat hglt
                        have HST : Hid (MIn (w9.setCell ⟨Q, 2, none⟩ (.slice (some ⟨g, 0, none⟩) (na + i + 1) cap)) B S Q (.slice ra m rc) (.slice (some ⟨g, 0, none⟩) (na + i + 1) cap) kd rl (al ++ [(rl.length, i)]) ∧ MMv (MB Q (.slice ra m rc) (.slice a' (na + i) c')) wa (MB Q (.slice ra m rc) (.slice (some ⟨g, 0, none⟩) (na + i + 1) cap)) (w9.setCell ⟨Q, 2, none⟩ (.slice (some ⟨g, 0, none⟩) (na + i + 1) cap))) := by
                          have h1 := HMI.out.below HBa.out.1
                          have h2 := h1.at_step (w2 := w9) (ys := ys) (k := rl.length) (j := i) (g := g) (cap := cap) (by rw [HALL.out]; exact HROW.out) HYC.out (by rw [HALL.out, HM.out]; exact hown) hgrow (hat.imp id (fun h => by rw [h]; exact Nat.le_refl _))
                          rw [HALL.out] at h2
                          exact h2
                        have HQ9 : Hid (w9.heap[Q]? = wr.heap[Q]?) := (hgrow.block Q (Nat.lt_of_lt_of_le HQLT.out HBa.out.1.size) (fun e => HMI.out.ane e.symm)).trans (HBa.out.1.block Q HQLT.out)
                        clear hown hgrow hat hglt
                        refine hK _ _ ⟨fun _ => HQ9.out, ?_⟩
                        clear hK K
                        refine wpOrd_l rfl (fun K hK => ?_)
                        go_simp
                        refine hK _ _ ⟨fun _ => HQ9.out, ?_⟩
                        clear hK K
                        refine wpOrd_l rfl (fun K hK => ?_)
                        go_simp
                        refine hK _ _ ⟨fun _ => HQ9.out, ?_⟩
                        clear hK K
                        have r2 := (HQC.out w9 HQ9.out).cell (j := 2) rfl
                        have f2 := (HQC.out w9 HQ9.out).frozen 2
                        refine wpOrd_l rfl (fun K hK => ?_)
                        go_simp
                        refine hK _ _ ⟨fun h => absurd rfl h, ?_⟩
                        clear hK K
                        refine wpOrd_nil ?_
                        have HN : Hid (MMv (MB Q (.slice ra m rc) (.slice aa na ac)) ws (MB Q (.slice ra m rc) (.slice (some ⟨g, 0, none⟩) (na + i + 1) cap)) (w9.setCell ⟨Q, 2, none⟩ (.slice (some ⟨g, 0, none⟩) (na + i + 1) cap)) ∧ MIn (w9.setCell ⟨Q, 2, none⟩ (.slice (some ⟨g, 0, none⟩) (na + i + 1) cap)) B S Q (.slice ra m rc) (.slice (some ⟨g, 0, none⟩) (na + i + 1) cap) kd rl (ats ++ (List.range (i + 1)).map (fun j => (rl.length, j)))) := by
                          refine ⟨HMM.out.trans ((MMv.of_below HBa.out.1).trans HST.out.2), ?_⟩
                          have h1 := HST.out.1
                          rw [← HAL.out, List.append_assoc] at h1
                          rw [List.range_succ, List.map_append]
                          exact h1
                        clear r2 f2 hS hwd p3
                        go_wp2_with fail
                        go_roundw
                        case rel => exact ⟨i + 1, by go_num, by omega, _, HN.out.1, HN.out.2⟩
                        case measure => simp [intOf]; omega
                      · have hi1 : ¬ (i : Int) < (np : Int) := by omega
                        obtain rfl : i = np := by omega
                        have HAL := Lib.hid hal
                        have HALL := Lib.hid hall
                        obtain ⟨xs, hxs, hxc⟩ := HMI.out.rrow
                        rw [HM.out] at hxs
                        have HXS := Lib.hid hxs
                        have HXC := Lib.hid hxc
                        have HQC : Hid (∀ W : World, W.heap[Q]? = wr.heap[Q]? → BoxN W Q [.int .i64 kd, .slice ra m rc, .slice a' (na + i) c'] 37) := fun W hW => HMI.out.box.to hW
                        have HDC : Hid (∀ W : World, W.heap[w.heap.size]? = wr.heap[w.heap.size]? → BoxN W w.heap.size [.string r.name, .int .i64 r.prio, .bool r.inst, .slice ap i cp] 40) := fun W hW => HD.out.to hW
                        clear hal hall hxs hxc hQ1 hQ2
                        go_upto_region 26 with fail
                        refine wp_region_ord (fun W => W.heap[Q]? = wr.heap[Q]? ∧ W.heap[w.heap.size]? = wr.heap[w.heap.size]?) 10 [(true, 0), (true, 1), (true, 2), (true, 3), (true, 4), (true, 5), (false, 6), (false, 7), (false, 8), (false, 9), (false, 10)] (by kernel_rfl) (by kernel_rfl) (fun _ _ d _ _ h => by cases d <;> exact h) ⟨rfl, rfl⟩ ?_
                        intro wd hwd hS
                        simp only [ordOps, List.map_cons, List.map_nil, Array.getD_eq_getD_getElem?, List.getElem?_toArray, List.getElem?_cons_succ, List.getElem?_cons_zero, Option.getD_some]
                        iterate 6 (refine wpOrd_q rfl _ (fun w' hS' K hK => (by have q1 := (HQC.out w' hS'.1).cell (j := 1) rfl; have d0 := (HDC.out w' hS'.2).cell (j := 0) rfl; have d1 := (HDC.out w' hS'.2).cell (j := 1) rfl; have d2 := (HDC.out w' hS'.2).cell (j := 2) rfl; have d3 := (HDC.out w' hS'.2).cell (j := 3) rfl; clear hS'; go_simp; exact hK)) (fun K hK => ?_); go_simp; refine hK _ ?_; clear hK K)
                        have HBd : Hid (Below wr.heap.size wr wd) := by rw [hwd.out]; exact below_dr1 (Below.refl _ _)
                        obtain ⟨wa, hwa⟩ : ∃ wa, wd.alloc (.cells #[.string r.name, .int .i64 r.prio, .bool r.inst, .slice ap i cp] 40) = wa := ⟨_, rfl⟩
                        have HBa : Hid (Below wr.heap.size wr wa ∧ BoxN wa wd.heap.size [.string r.name, .int .i64 r.prio, .bool r.inst, .slice ap i cp] 40) := by
                          rw [← hwa]
                          exact ⟨below_tr HBd.out (below1 wd _), boxN_alloc _ _ _⟩
                        have HQLT : Hid (Q < wr.heap.size ∧ w.heap.size < wr.heap.size) := ⟨HMI.out.box.lt, HD.out.lt⟩
                        refine wpOrd_l rfl (fun K hK => ?_)
                        go_simp
                        refine hK _ _ ⟨fun _ => ⟨HBa.out.1.block Q HQLT.out.1, HBa.out.1.block _ HQLT.out.2⟩, ?_⟩
                        clear hK K hwa
                        obtain ⟨i6, hi6, hz60, hz61, hz62⟩ := info_parts info34
                        have HROW : Hid (wa.ownsRow B 40 4 (.slice ra m rc) m xs) := ownsRow_below HXS.out HBa.out.1
                        have HBBa : Hid (B ≤ wa.heap.size) := Nat.le_trans HBW.out HBa.out.1.size
                        refine wpOrd_l rfl (fun K hK => ?_)
                        refine wp_append_lies _ (.tmp 118) (.tmp 120) 31 rfl B 40 i6 _ 4 56 Tryz.underlying31 hi6 hz60 hz61 hz62 rfl (by decide) (.slice ra m rc) m xs rfl HROW.out ⟨wd.heap.size, 0, none⟩ 1 1 [.string r.name, .int .i64 r.prio, .bool r.inst, .slice ap i cp] rfl rfl (World.news_of_block (cs := #[.string r.name, .int .i64 r.prio, .bool r.inst, .slice ap i cp]) (t := 40) (fr := (0, 0)) HBa.out.2) (by intro u hu; simp only [List.mem_cons, List.not_mem_nil, or_false] at hu; rcases hu with rfl | rfl | rfl | rfl <;> rfl) (by omega) (by unfold maxLen; omega) (by omega) HBBa.out _ rfl ?_
                        intro g cap w9 hown hgrow hat hglt
                        have HST : Hid (MIn (w9.setCell ⟨Q, 1, none⟩ (.slice (some ⟨g, 0, none⟩) (m + 1) cap)) B S Q (.slice (some ⟨g, 0, none⟩) (m + 1) cap) (.slice a' (na + i) c') kd (rl ++ [r]) al ∧ MMv (MB Q (.slice ra m rc) (.slice a' (na + i) c')) wa (MB Q (.slice (some ⟨g, 0, none⟩) (m + 1) cap) (.slice a' (na + i) c')) (w9.setCell ⟨Q, 1, none⟩ (.slice (some ⟨g, 0, none⟩) (m + 1) cap))) := by
                          have h1 := HMI.out.below HBa.out.1
                          have hpv : PkgsV wa S r.pkgs (.slice ap i cp) := (((HHR.out.below HWS.out.1).keep (fun _ h => h) (fun b hb hl => (HMM.out.block b hl (fun hm => by
                            have h2 := HMI.out.sb b hb
                            rcases hm with e | e | e
                            · have := HMI.out.lo; omega
                            · have := (HXS.out.lt b e).1; omega
                            · have h3 := HH.out.lt (b := b) (.inr (.inr (by rw [HNA.out]; exact e)))
                              omega)).1)).below HBa.out.1)
                          have h2 := h1.repo_step (w2 := w9) (xs := xs) (r := r) (v := .slice ap i cp) (g := g) (cap := cap) (by rw [HM.out]; exact HROW.out) (fun k hk => by
                            obtain ⟨v, h3, h4⟩ := HXC.out k hk
                            exact ⟨v, h3.below HBa.out.1, h4⟩) hpv (by rw [HM.out]; exact hown) hgrow (hat.imp id (fun h => by rw [h]; exact Nat.le_refl _))
                          rw [HM.out] at h2
                          exact h2
                        have HQ9 : Hid (w9.heap[Q]? = wr.heap[Q]? ∧ w9.heap[w.heap.size]? = wr.heap[w.heap.size]?) := by
                          refine ⟨(hgrow.block Q (Nat.lt_of_lt_of_le HQLT.out.1 HBa.out.1.size) (fun e => HMI.out.rne e.symm)).trans (HBa.out.1.block Q HQLT.out.1), (hgrow.block _ (Nat.lt_of_lt_of_le HQLT.out.2 HBa.out.1.size) (fun e => HDM.out.1 (.inr (.inl e.symm)))).trans (HBa.out.1.block _ HQLT.out.2)⟩
                        clear hown hgrow hat hglt
                        refine hK _ _ ⟨fun _ => HQ9.out, ?_⟩
                        clear hK K
                        refine wpOrd_l rfl (fun K hK => ?_)
                        go_simp
                        refine hK _ _ ⟨fun _ => HQ9.out, ?_⟩
                        clear hK K
                        refine wpOrd_l rfl (fun K hK => ?_)
                        go_simp
                        refine hK _ _ ⟨fun _ => HQ9.out, ?_⟩
                        clear hK K
                        have r1 := (HQC.out w9 HQ9.out.1).cell (j := 1) rfl
                        have f1 := (HQC.out w9 HQ9.out.1).frozen 1
                        refine wpOrd_l rfl (fun K hK => ?_)
                        go_simp
                        refine hK _ _ ⟨fun h => absurd rfl h, ?_⟩
                        clear hK K
                        refine wpOrd_nil ?_
                        have HFIN := Lib.hid (HYES.out HE0.out (w9.setCell ⟨Q, 1, none⟩ (.slice (some ⟨g, 0, none⟩) (m + 1) cap)) (.slice (some ⟨g, 0, none⟩) (m + 1) cap) (.slice a' (na + i) c')
                          (by rw [HM.out, HNA.out]; exact (MMv.of_below HWS.out.1).trans (HMM.out.trans ((MMv.of_below HBa.out.1).trans HST.out.2))) (by
                            have h1 := HST.out.1
                            rw [← HAL.out] at h1
                            rw [← HNP.out]
                            exact h1))
                        clear r1 f1 hS hwd p3
                        go_wp2_with fail
                        exact HFIN.out
end Go.Proofs.YtbdankpkdhhlmaaGreat
