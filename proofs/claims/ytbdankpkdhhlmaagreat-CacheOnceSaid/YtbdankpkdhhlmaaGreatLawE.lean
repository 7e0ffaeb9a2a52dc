/-
  The walk of the law CacheReads. Helper text; the conditions are those typed.
  The walk of the law CacheBack. Helper text; the conditions are those typed.
  The walk of the law CacheApart. Helper text; the conditions are those typed.
  The walk of the law CacheApart. Helper text; the conditions are those typed.
-/
import Derived.Test.YtbdankpkdhhlmaaGreatLawsA
import Derived.Test.YtbdankpkdhhlmaaGreatSameF
namespace Go.Proofs.YtbdankpkdhhlmaaGreat
set_option linter.unusedVariables false
set_option linter.unusedSimpArgs false
open Go.RowKit Go.Maps

theorem convN {w : World} {a : Option Addr} {l : List UInt8} (h : BytesAt w a l) (cap : Nat) {n : Nat} (hn : l.length = n) : (convert 23 9 (.slice a n cap)).run Tryz.prog w = .ok (.string ⟨l.toArray⟩) w := by
  subst hn
  exact convB h cap
set_option maxHeartbeats 2000000 in
set_option maxRecDepth 100000 in
theorem cacheReads_walk (w : World) (a : Option Addr) (n c : Nat) (l : List UInt8) (hr : ReadsB w (.slice a n c) l) (hn : l.length = n) (hl : n ≤ 1048576) :
    Calls Tryz.prog 4 #[.slice a n c] w fun e w' => e = .returned (.bool true) ∧ Below w.heap.size w w' := by
  have HR := Lib.hid hr
  have HN := Lib.hid hn
  clear hr hn
  go_enter Tryz.func4, Tryz.ntmps4
  go_wp2_with fail
  refine (awake_c w).mono ?_
  rintro e w1 ⟨rfl, hb1⟩
  replace hb1 := Lib.hid hb1
  have HO : Hid (OwnB w1 (.slice (some ⟨w1.heap.size, 0, none⟩) 0 0) [] (w1.alloc (.cells #[] 5))) := Lib.hid (OwnB.made w1)
  have HR1 : Hid (ReadsB (w1.alloc (.cells #[] 5)) (.slice a n c) l) := Lib.hid ((HR.out.below hb1.out).below (below1 w1 _))
  have hlim : ([] : List UInt8).length + l.length ≤ 140737488355328 := by
    have := HN.out
    simp
    omega
  go_wp2_with (at_builtin; refine wpList_appB rfl (.tmp 10) (.tmp 11) rfl (.slice (some ⟨w1.heap.size, 0, none⟩) 0 0) (.slice a n c) [] l rfl rfl HO.out HR1.out hlim ?_; intro v4 w4 hown4 hgrow4)
  have hb4 := hown4.2
  obtain ⟨a4, c4, rfl, hby4, hc4, _⟩ := hown4.slice2
  simp only [List.nil_append] at hby4 hc4 ⊢
  have HB4 : Hid (Below w.heap.size w w4) := Lib.hid (below_tr hb1.out hb4)
  have HLT : Hid (∀ b off s, a4 = some ⟨b, off, s⟩ → b < w4.heap.size) := Lib.hid <| by
    intro b off s e
    rcases hown4.1.2 with ⟨e1, _⟩ | ⟨g, cap, cur, e1, _⟩
    · injection e1 with e1 _ _
      rw [e] at e1
      cases e1
    · injection e1 with e1 _ _
      rw [e] at e1
      injection e1 with e1
      injection e1 with e1 _ _
      rw [e1]
      exact (hown4.1.lt g (by rw [e] ; simp [Value.ownBlock, e1])).2
  have hC := Lib.hid (read_c w4 a4 c4 l hby4 HLT.out hc4 (by have := HN.out; omega) (fun kd rl rs ks ats => can_read (by have := HN.out; omega) kd rl rs ks ats) HN.out)
  have HBY := Lib.hid hby4
  have HR4 : Hid (ReadsB w4 (.slice a n c) l) := Lib.hid (HR.out.below HB4.out)
  rw [HN.out]
  clear hown4 hgrow4 hby4 hc4 hb4 HO HR1 hlim
  go_wp2_with fail
  refine hC.out.mono ?_
  rintro e w5 ⟨hb5, h5⟩
  have HB5 : Hid (Below w.heap.size w w5) := Lib.hid (below_tr HB4.out hb5)
  have HR5 : Hid (ReadsB w5 (.slice a n c) l) := Lib.hid (HR.out.below HB5.out)
  have HBY5 : Hid (BytesAt w5 a4 l) := Lib.hid (HBY.out.keep fun b off s e => hb5.block b (HLT.out b off s e))
  obtain ⟨a', c', ea, hya⟩ := HR5.out.at
  have hya : BytesAt w5 a l := by
    injection ea with ea _ _
    rw [ea]
    exact hya
  have k1 := convN HBY5.out c4 HN.out
  have k2 := convN hya c HN.out
  have HYA := Lib.hid hya
  clear hb5 hC ea hya
  rcases h5 with ⟨rfl, _⟩ | ⟨kd, rl, rs, ks, ats, role, P, M, vr, va, lv, rfl, hall, hok, hkd, hen, hp⟩
  · go_wp2_with fail
    go_ret
    exact ⟨rfl, HB5.out⟩
  · have hcw : CanW kd rs ks := can_read (by have := HN.out; omega) kd rl rs ks ats hall hok
    have hW := Lib.hid (write_c hp hcw)
    have HEN : Hid (encB (kd : Int).toNat (tokPool rs ks) = l) := Lib.hid hen
    clear hall hok hkd hen hp hcw
    go_wp2_with fail
    refine hW.out.mono ?_
    rintro e w7 ⟨v7, rfl, hv7⟩
    rw [HEN.out] at hv7
    obtain ⟨a7, c7, rfl, hby7, _, _⟩ := hv7.slice2
    have HB7 : Hid (Below w.heap.size w w7) := Lib.hid (below_tr HB5.out hv7.2)
    have k3 := convN hby7 c7 HN.out
    obtain ⟨a8, c8, ea8, hya8⟩ := (HR.out.below HB7.out).at
    have hya7 : BytesAt w7 a l := by
      injection ea8 with ea8 _ _
      rw [ea8]
      exact hya8
    have k4 := convN hya7 c HN.out
    rw [HN.out]
    clear hv7 hby7 hya7 hya8 ea8 hW k1 k2
    go_wp2_with fail
    go_ret
    exact ⟨rfl, HB7.out⟩
end Go.Proofs.YtbdankpkdhhlmaaGreat
namespace Go.Proofs.YtbdankpkdhhlmaaGreat
set_option linter.unusedVariables false
set_option linter.unusedSimpArgs false
open Go.RowKit Go.Maps

theorem ReposV.below {w w' : World} {l : List RepoT} {v : Value} (h : ReposV w (· < w.heap.size) l v) (hb : Below w.heap.size w w') : ReposV w' (· < w'.heap.size) l v := by
  obtain ⟨a, c, e, hn, h⟩ := h
  refine ⟨a, c, e, hn, fun hl => ?_⟩
  obtain ⟨b, off, ea, hS, hr⟩ := h hl
  refine ⟨b, off, ea, Nat.lt_of_lt_of_le hS hb.size, fun i hi => ?_⟩
  obtain ⟨ap, np, cp, hp, hc⟩ := hr i hi
  exact ⟨ap, np, cp, hp.keep (fun b hb2 => Nat.lt_of_lt_of_le hb2 hb.size) (fun b hb2 _ => hb.block b hb2), hc.keep (hb.block b hS)⟩
theorem kindN (kd : Int) : ∃ k : Nat, kindP kd = (k : Int) ∧ (k = 1 ∨ k = 2) := by
  rcases kindP_ok kd with h | h
  · exact ⟨1, h, .inl rfl⟩
  · exact ⟨2, h, .inr rfl⟩
/-- Another pool that has the same. -/
theorem Both.other {w w' : World} {B : Nat} {role role7 : Nat → Role} {P M Q P7 M7 : Nat} {kd : Int} {rl : List RepoT} {rs : List RepoH} {ks : List KeptT} {ats : List (Nat × Nat)} {vr va : Value} {lv : ByteArray → Value} (h : Both w B role P M Q kd rl rs ks ats) (hB : B ≤ w.heap.size) (hb : Below w.heap.size w w') (hp : PoolIn w' w.heap.size role7 P7 M7 vr va lv kd rs ks (ks.map fun k => k.pkg.name)) : Both w' B role7 P7 M7 Q kd rl rs ks ats := by
  obtain ⟨mr, ma, h2, h3⟩ := h.doc
  refine ⟨⟨vr, va, lv, hp.base hB⟩, ⟨mr, ma, h2.below hb, fun b hmb => ?_⟩, h.built, h.rlen, h.klen⟩
  by_cases e : role7 b = .free
  · exact e
  · have h4 := hp.lo b e
    have h5 := (h2.lt hmb).2
    omega
set_option maxHeartbeats 2000000 in
set_option maxRecDepth 100000 in
theorem cacheBack_walk (w : World) (kd : Int) (l : List RepoT) (a : Option Addr) (n c : Nat) (hl : ReposV w (· < w.heap.size) l (.slice a n c)) (hc : CanL (poolsOf l).rl) :
    Calls Tryz.prog 9 #[.int .i64 kd, .slice a n c] w fun e w' => e = .returned (.bool true) ∧ Below w.heap.size w w' := by
  have HL := Lib.hid hl
  have HC := Lib.hid hc
  clear hl hc
  go_enter Tryz.func9, Tryz.ntmps9
  go_wp2_with fail
  refine (awake_c w).mono ?_
  rintro e w1 ⟨rfl, hb1⟩
  replace hb1 := Lib.hid hb1
  have hP := Lib.hid (pools_c kd l a n c w1 (HL.out.below hb1.out))
  go_wp2_with fail
  refine hP.out.mono ?_
  rintro e w2 ⟨B, role, P, M, Q, rfl, hBw, hb2, hboth⟩
  have HB2 : Hid (Below w.heap.size w w2) := Lib.hid (below_tr hb1.out hb2)
  obtain ⟨k, hk, hk2⟩ := kindN kd
  rw [hk] at hboth
  have HK2 := Lib.hid hk2
  have HOK := Lib.hid (poolsOf_ok l)
  obtain ⟨st, hst⟩ : ∃ st, poolsOf l = st := ⟨_, rfl⟩
  rw [hst] at HC HOK hboth
  have HBO := Lib.hid hboth
  have HBW : Hid (B ≤ w2.heap.size) := Lib.hid <| by
    obtain ⟨vr, va, lv, hpool⟩ := hboth.pool
    have h1 := hpool.lo P (by rw [hpool.rP]; simp)
    have h2 := hpool.hi P (by rw [hpool.rP]; simp)
    omega
  obtain ⟨vr, va, lv, hpool⟩ := hboth.pool
  have hW := Lib.hid (write_c hpool (HOK.out.canW HC.out (by have := HK2.out; omega)))
  clear hP hb2 hk hk2 hst hboth hpool hBw
  go_wp2_with fail
  refine hW.out.mono ?_
  rintro e w3 ⟨v3, rfl, hv3⟩
  have hb3 := hv3.2
  rw [show (k : Int).toNat = k from rfl] at hv3
  obtain ⟨a3, c3, rfl, hby3, hc3, _⟩ := hv3.slice2
  have HB3 : Hid (Below w2.heap.size w2 w3) := Lib.hid hb3
  obtain ⟨m, hm⟩ : ∃ m, (encB k (tokPool st.rs st.ks)).length = m := ⟨_, rfl⟩
  have hR := Lib.hid (read_same HOK.out HC.out HK2.out w3 a3 c3 hby3 (hby3.blk (encB_ne _ _)) hc3 hm)
  rw [hm]
  clear hv3 hb3 hby3 hc3 hm hW
  go_wp2_with fail
  refine hR.out.mono ?_
  rintro e w4 ⟨⟨role4, P4, M4, vr4, va4, lv4, rfl, hp4⟩, hb4⟩
  have HB4 : Hid (Below w.heap.size w w4) := Lib.hid (below_tr (below_tr HB2.out HB3.out) hb4)
  have HBO4 : Hid (Both w4 B role P M Q (k : Int) st.rl st.rs st.ks st.ats) := Lib.hid ((HBO.out.below HB3.out).below hb4)
  have hA1 := Lib.hid (alike_c ((HBO.out.below HB3.out).other (Nat.le_trans HBW.out HB3.out.size) hb4 hp4))
  clear hR hp4 hb4
  go_wp2_with fail
  refine hA1.out.mono ?_
  rintro e w5 ⟨rfl, hb5⟩
  have HB5 : Hid (Below w.heap.size w w5) := Lib.hid (below_tr HB4.out hb5)
  have hA2 := Lib.hid (alike_c (HBO4.out.below hb5))
  clear hA1 hb5
  go_wp2_with fail
  refine hA2.out.mono ?_
  rintro e w6 ⟨rfl, hb6⟩
  have HB6 : Hid (Below w.heap.size w w6) := Lib.hid (below_tr HB5.out hb6)
  clear hA2 hb6
  go_wp2_with fail
  go_ret
  exact ⟨rfl, HB6.out⟩
end Go.Proofs.YtbdankpkdhhlmaaGreat
namespace Go.Proofs.YtbdankpkdhhlmaaGreat
set_option linter.unusedVariables false
set_option linter.unusedSimpArgs false
open Go.RowKit Go.Maps

theorem bytes_ne {l m : List UInt8} (h : ¬ l = m) : ¬ (⟨l.toArray⟩ : ByteArray) = ⟨m.toArray⟩ := by
  intro e
  injection e with e
  exact h (by simpa using congrArg Array.toList e)
set_option maxHeartbeats 2000000 in
set_option maxRecDepth 100000 in
theorem same_c {w : World} {B : Nat} {role : Nat → Role} {P M : Nat} {vr va : Value} {lv : ByteArray → Value} {kd : Int} {rs : List RepoH} {ks : List KeptT} (hp : PoolIn w B role P M vr va lv kd rs ks (ks.map fun k => k.pkg.name)) (hc : CanW kd rs ks)
    {B2 : Nat} {role2 : Nat → Role} {P2 M2 : Nat} {vr2 va2 : Value} {lv2 : ByteArray → Value} {kd2 : Int} {rs2 : List RepoH} {ks2 : List KeptT} (hp2 : PoolIn w B2 role2 P2 M2 vr2 va2 lv2 kd2 rs2 ks2 (ks2.map fun k => k.pkg.name)) (hc2 : CanW kd2 rs2 ks2) :
    Calls Tryz.prog 20 #[.pointer (some ⟨P, 0, none⟩), .pointer (some ⟨P2, 0, none⟩)] w fun e w' => IsB (encB kd.toNat (tokPool rs ks) = encB kd2.toNat (tokPool rs2 ks2)) e ∧ Below w.heap.size w w' := by
  have H1 := Lib.hid (write_c hp hc)
  have HP2 := Lib.hid hp2
  have HC2 := Lib.hid hc2
  generalize encB kd.toNat (tokPool rs ks) = l at H1 ⊢
  obtain ⟨m, hm⟩ : ∃ m, encB kd2.toNat (tokPool rs2 ks2) = m := ⟨_, rfl⟩
  rw [hm]
  have HMM := Lib.hid hm
  clear hp hc hp2 hc2 hm
  go_enter Tryz.func20, Tryz.ntmps20
  go_wp2_with fail
  refine H1.out.mono ?_
  rintro e w2 ⟨v1, rfl, hv1⟩
  obtain ⟨a1, c1, rfl, hby1, _, _⟩ := hv1.slice2
  have HB2 : Hid (Below w.heap.size w w2) := Lib.hid hv1.2
  have HBY1 := Lib.hid hby1
  have H2 := Lib.hid (write_c (HP2.out.below HB2.out) HC2.out)
  rw [HMM.out] at H2
  obtain ⟨n1, hn1⟩ : ∃ n, l.length = n := ⟨_, rfl⟩
  rw [hn1]
  have HN1 := Lib.hid hn1
  have HLT : Hid (∀ b off s, l ≠ [] → a1 = some ⟨b, off, s⟩ → b < w2.heap.size) := Lib.hid fun b off s h e => HBY1.out.blk h b off s e
  clear hv1 hby1 H1 hn1
  go_wp2_with fail
  refine H2.out.mono ?_
  rintro e w3 ⟨v2, rfl, hv2⟩
  obtain ⟨a2, c2, rfl, hby2, _, _⟩ := hv2.slice2
  have HB3 : Hid (Below w.heap.size w w3) := Lib.hid (below_tr HB2.out hv2.2)
  have hby1 : BytesAt w3 a1 l := by
    by_cases h : l = []
    · exact .inl h
    · exact HBY1.out.keep fun b off s e => hv2.2.block b (HLT.out b off s h e)
  obtain ⟨n2, hn2⟩ : ∃ n, m.length = n := ⟨_, rfl⟩
  rw [hn2]
  have k1 := convN hby1 c1 HN1.out
  have k2 := convN hby2 c2 hn2
  clear hv2 hby1 hby2 H2 hn2
  go_wp2_with fail
  go_ret
  exact ⟨⟨_, rfl, by simp⟩, HB3.out⟩
/-- Equal bytes, equal repositories. -/
theorem enc_iff {k : Nat} (hk : k = 1 ∨ k = 2) (l1 l2 : List RepoT) (h1 : CanL (poolsOf l1).rl) (h2 : CanL (poolsOf l2).rl) : encB k (tokPool (poolsOf l1).rs (poolsOf l1).ks) = encB k (tokPool (poolsOf l2).rs (poolsOf l2).ks) ↔ (poolsOf l1).rl = (poolsOf l2).rl := by
  have o1 := poolsOf_ok l1
  have o2 := poolsOf_ok l2
  constructor
  · intro e
    have r1 := read_back o1.has hk h1.prio (by have := h1.toks; omega)
    have r2 := read_back o2.has hk h2.prio (by have := h2.toks; omega)
    rw [e, r2] at r1
    injection r1 with r1
    injection r1 with _ r1
    exact r1.symm
  · intro e
    have d1 := o1.det
    rw [e] at o1 d1
    have d2 := o2.det
    rw [d1.1, ← d2.1, d2.2 _ _ _ o1]
/-- A repository of the document's pool. -/
theorem MIn.at_repo {w : World} {B : Nat} {S : Nat → Prop} {Q : Nat} {vr va : Value} {kd : Int} {rl : List RepoT} {ats : List (Nat × Nat)} (h : MIn w B S Q vr va kd rl ats) : ∃ a c, vr = .slice a rl.length c ∧ ∀ k (hk : k < rl.length), ∃ g ap np cp, a = some ⟨g, 0, none⟩ ∧ g < w.heap.size ∧ PkgsV w S rl[k].pkgs (.slice ap np cp) ∧ CellsAt w g (k * 4) [.string rl[k].name, .int .i64 rl[k].prio, .bool rl[k].inst, .slice ap np cp] := by
  obtain ⟨xs, hrow, hk⟩ := h.rrow
  rcases ownsRow_form hrow with ⟨e, h0⟩ | ⟨g, c, e, _⟩
  · exact ⟨none, 0, by rw [e, h0], fun k hk => by omega⟩
  · subst e
    refine ⟨_, c, rfl, fun k hkl => ?_⟩
    obtain ⟨v, hp, hx⟩ := hk k hkl
    have hp2 := hp
    obtain ⟨ap, cp, rfl, _⟩ := hp2
    refine ⟨g, ap, _, cp, rfl, (hrow.lt g rfl).2, hp, fun j u hj => ?_⟩
    exact ownsRow_cell hrow (hx j u hj)
end Go.Proofs.YtbdankpkdhhlmaaGreat
namespace Go.Proofs.YtbdankpkdhhlmaaGreat
set_option linter.unusedVariables false
set_option linter.unusedSimpArgs false
open Go.RowKit Go.Maps

/-- A repository of the document's pool, in any world behind. -/
theorem MIn.rowAt {w : World} {B : Nat} {S : Nat → Prop} {Q m y : Nat} {x : Option Addr} {va : Value} {kd : Int} {rl : List RepoT} {ats : List (Nat × Nat)} (h : MIn w B S Q (.slice x m y) va kd rl ats) {k : Nat} (hk : k < rl.length) : ∃ G ap np cp r, x = some ⟨G, 0, none⟩ ∧ rl[k]? = some r ∧ PkgsV w S r.pkgs (.slice ap np cp) ∧ ∀ W : World, Below w.heap.size w W → W.cell? ⟨G, k * 4, none⟩ = some (.string r.name) ∧ W.cell? ⟨G, k * 4 + 1, none⟩ = some (.int .i64 r.prio) ∧ W.cell? ⟨G, k * 4 + 2, none⟩ = some (.bool r.inst) ∧ W.cell? ⟨G, k * 4 + 3, none⟩ = some (.slice ap np cp) := by
  obtain ⟨G, c, ap, np, cp, e, hlt, _, hp, hc⟩ := h.repo hk
  injection e with e1 e2 e3
  refine ⟨G, ap, np, cp, rl[k], e1, List.getElem?_eq_getElem hk, hp, fun W hW => ?_⟩
  have h1 := hc W (hW.block G hlt)
  exact ⟨h1 0 _ rfl, h1 1 _ rfl, h1 2 _ rfl, h1 3 _ rfl⟩
/-- What the loop knows. -/
def RelA (l1 l2 : List RepoT) (i : Nat) (b : Bool) : Prop := (b = true → l1.length = l2.length ∧ ∀ j, j < i → l1[j]? = l2[j]?) ∧ (b = false → ¬ l1 = l2)
theorem RelA.next {l1 l2 : List RepoT} {i : Nat} (h : RelA l1 l2 i true) {r1 r2 : RepoT} (h1 : l1[i]? = some r1) (h2 : l2[i]? = some r2) {b : Bool} (hb : b = true ↔ r1 = r2) : RelA l1 l2 (i + 1) b := by
  refine ⟨fun e => ⟨(h.1 rfl).1, fun j hj => ?_⟩, fun e e2 => ?_⟩
  · by_cases e2 : j = i
    · rw [e2, h1, h2, hb.1 e]
    · exact (h.1 rfl).2 j (by omega)
  · rw [e2, h2] at h1
    have := hb.2 (Option.some.inj h1).symm
    rw [e] at this
    cases this
theorem RelA.full {l1 l2 : List RepoT} {i : Nat} (h : RelA l1 l2 i true) (hi : l1.length ≤ i) : l1 = l2 := by
  refine List.ext_getElem? fun j => ?_
  by_cases hj : j < i
  · exact (h.1 rfl).2 j hj
  · have := (h.1 rfl).1
    rw [List.getElem?_eq_none (by omega), List.getElem?_eq_none (by omega)]
set_option maxHeartbeats 8000000 in
set_option maxRecDepth 100000 in
theorem cacheApart_walk (w : World) (kd : Int) (l1 l2 : List RepoT) (a1 : Option Addr) (n1 c1 : Nat) (a2 : Option Addr) (n2 c2 : Nat) (hl1 : ReposV w (· < w.heap.size) l1 (.slice a1 n1 c1)) (hl2 : ReposV w (· < w.heap.size) l2 (.slice a2 n2 c2)) (hc1 : CanL (poolsOf l1).rl) (hc2 : CanL (poolsOf l2).rl) :
    Calls Tryz.prog 8 #[.int .i64 kd, .slice a1 n1 c1, .slice a2 n2 c2] w fun e w' => e = .returned (.bool true) ∧ Below w.heap.size w w' := by
  have HL1 := Lib.hid hl1
  have HL2 := Lib.hid hl2
  have HC1 := Lib.hid hc1
  have HC2 := Lib.hid hc2
  clear hl1 hl2 hc1 hc2
  go_enter Tryz.func8, Tryz.ntmps8
  go_wp2_with fail
  refine (awake_c w).mono ?_
  rintro e w1 ⟨rfl, hb1⟩
  replace hb1 := Lib.hid hb1
  have hP := Lib.hid (pools_c kd l1 a1 n1 c1 w1 (HL1.out.below hb1.out))
  go_wp2_with fail
  refine hP.out.mono ?_
  rintro e w2 ⟨B1, role1, P1, M1, Q1, rfl, hBw1, hb2, hboth1⟩
  have HB2 : Hid (Below w.heap.size w w2) := Lib.hid (below_tr hb1.out hb2)
  have HBO1 := Lib.hid hboth1
  clear hP hb2 hboth1 hBw1 hb1
  have hP := Lib.hid (pools_c kd l2 a2 n2 c2 w2 (HL2.out.below HB2.out))
  go_wp2_with fail
  refine hP.out.mono ?_
  rintro e w3 ⟨B2, role2, P2, M2, Q2, rfl, hBw2, hb3, hboth2⟩
  have HB3 : Hid (Below w.heap.size w w3) := Lib.hid (below_tr HB2.out hb3)
  have HBO2 := Lib.hid hboth2
  have HBO1 := Lib.hid (HBO1.out.below hb3)
  clear hP hb3 hboth2 hBw2
  obtain ⟨k, hk, hk2⟩ := kindN kd
  rw [hk] at HBO1 HBO2
  have HEQ := Lib.hid (enc_iff hk2 l1 l2 HC1.out HC2.out)
  have HOK1 := Lib.hid (poolsOf_ok l1)
  have HOK2 := Lib.hid (poolsOf_ok l2)
  obtain ⟨st1, hst1⟩ : ∃ st, poolsOf l1 = st := ⟨_, rfl⟩
  obtain ⟨st2, hst2⟩ : ∃ st, poolsOf l2 = st := ⟨_, rfl⟩
  rw [hst1] at HC1 HOK1 HBO1 HEQ
  rw [hst2] at HC2 HOK2 HBO2 HEQ
  clear hst1 hst2 hk
  have HSM : Hid (∀ W : World, Below w3.heap.size w3 W → Calls Tryz.prog 20 #[.pointer (some ⟨P1, 0, none⟩), .pointer (some ⟨P2, 0, none⟩)] W fun e w' => IsB (st1.rl = st2.rl) e ∧ Below W.heap.size W w') := Lib.hid fun W hW => by
    obtain ⟨vr1, va1, lv1, hp1⟩ := HBO1.out.pool
    obtain ⟨vr2, va2, lv2, hp2⟩ := HBO2.out.pool
    refine (same_c (hp1.below hW) (HOK1.out.canW HC1.out (by omega)) (hp2.below hW) (HOK2.out.canW HC2.out (by omega))).mono ?_
    rintro e w' ⟨⟨b, rfl, hb⟩, hbl⟩
    exact ⟨⟨b, rfl, hb.trans HEQ.out⟩, hbl⟩
  obtain ⟨mr1, ma1, hdoc1, _⟩ := HBO1.out.doc
  obtain ⟨mr2, ma2, hdoc2, _⟩ := HBO2.out.doc
  obtain ⟨x1, y1, rfl⟩ := hdoc1.rform
  obtain ⟨x2, y2, rfl⟩ := hdoc2.rform
  have hm8 : st1.rl.length ≤ 8 := by
    have h1 := HBO1.out.built.len.1
    have h2 := HBO1.out.rlen
    omega
  have HQ : Hid (∀ W : World, Below w3.heap.size w3 W → W.cell? ⟨Q1, 1, none⟩ = some (.slice x1 st1.rl.length y1) ∧ W.cell? ⟨Q2, 1, none⟩ = some (.slice x2 st2.rl.length y2)) := Lib.hid fun W hW => ⟨(hdoc1.below hW).box.cell (j := 1) rfl, (hdoc2.below hW).box.cell (j := 1) rfl⟩
  have HD1 := Lib.hid hdoc1
  have HD2 := Lib.hid hdoc2
  clear hdoc1 hdoc2 HEQ hk2 HBO1 HBO2 HOK1 HOK2 HC1 HC2
  obtain ⟨u1, hu1⟩ : ∃ u, st1.rl = u := ⟨_, rfl⟩
  obtain ⟨u2, hu2⟩ : ∃ u, st2.rl = u := ⟨_, rfl⟩
  rw [hu1] at HSM HQ HD1 hm8
  rw [hu2] at HSM HQ HD2
  clear hu1 hu2
  obtain ⟨m1, hm1⟩ : ∃ m, u1.length = m := ⟨_, rfl⟩
  obtain ⟨m2, hm2⟩ : ∃ m, u2.length = m := ⟨_, rfl⟩
  rw [hm1] at HQ HD1 hm8
  rw [hm2] at HQ HD2
  have HM1 := Lib.hid hm1
  have HM2 := Lib.hid hm2
  clear hm1 hm2
  have HB33 : Hid (Below w3.heap.size w3 w3) := Lib.hid (Below.refl _ _)
  have hcs : ((m1 : Int) = (m2 : Int) ∧ Hid (RelA u1 u2 0 true)) ∨ (((m1 : Int) == (m2 : Int)) = false ∧ Hid (RelA u1 u2 0 false)) := by
    have h1 := HM1.out
    have h2 := HM2.out
    by_cases e : m1 = m2
    · exact .inl ⟨by omega, ⟨fun _ => ⟨by omega, fun j hj => absurd hj (Nat.not_lt_zero _)⟩, fun h => (by cases h)⟩⟩
    · exact .inr ⟨beq_eq_false_iff_ne.2 (by omega), ⟨fun h => (by cases h), fun _ e2 => e (by rw [← h1, ← h2, e2])⟩⟩
  go_upto_region 6 with fail
  rcases hcs with ⟨hm, HZ⟩ | ⟨hm, HZ⟩
  all_goals
    refine wp_region_ord (fun W => Below w3.heap.size w3 W) 11 [(true, 0), (true, 1), (true, 2), (true, 3), (true, 4), (true, 5), (true, 6), (true, 7), (true, 8), (true, 9), (true, 10), (false, 11)] (by kernel_rfl) (by kernel_rfl) (fun _ _ d _ _ h => by cases d <;> exact h) (below_dr1 HB33.out) ?_
    intro wd hwd hS
    simp only [ordOps, List.map_cons, List.map_nil, Array.getD_eq_getD_getElem?, List.getElem?_toArray, List.getElem?_cons_succ, List.getElem?_cons_zero, Option.getD_some]
    iterate 11 (refine wpOrd_q rfl _ (fun w' hS' K hK => (by obtain ⟨q1, q2⟩ := HQ.out w' hS'; clear hS'; go_simp; exact hK)) (fun K hK => ?_); go_simp; refine hK _ ?_; clear hK K)
    have HBd : Hid (Below w3.heap.size w3 wd) := Lib.hid (by rw [hwd.out]; exact below_dr1 (Below.refl _ _))
    refine wpOrd_l rfl (fun K hK => ?_)
    go_simp
    refine hK _ _ ⟨fun h => absurd rfl h, ?_⟩
    clear hK K
    refine wpOrd_nil ?_
    clear hm hS hwd
    go_wp2_with fail
    go_loopw [12, 13] (fun vb vi wr => ∃ (bb : Bool) (i : Nat), vb = .bool bb ∧ vi = .int .i64 i ∧ i ≤ m1 ∧ Hid (Below w3.heap.size w3 wr ∧ RelA u1 u2 i bb)) (fun _ vi _ => m1 - (intOf vi).toNat)
    case atStart => exact ⟨_, 0, rfl, rfl, Nat.zero_le _, HBd.out, HZ.out⟩
    case round =>
      clear HZ HBd
      obtain ⟨bb, i, rfl, rfl, hin, HT⟩ := hrel
      obtain ⟨q1, q2⟩ := HQ.out wr HT.out.1
      cases bb with
      | false =>
        clear q1 q2
        go_wp2_with fail
        refine (HSM.out wr HT.out.1).mono ?_
        rintro e w6 ⟨⟨b6, rfl, hb6⟩, hb7⟩
        have hz : b6 = false := by
          cases b6
          · rfl
          · exact absurd (hb6.1 rfl) (HT.out.2.2 rfl)
        subst hz
        have HB6 : Hid (Below w.heap.size w w6) := Lib.hid (below_tr (below_tr HB3.out HT.out.1) hb7)
        clear hb6 hb7
        go_wp2_with fail
        go_ret
        exact ⟨rfl, HB6.out⟩
      | true =>
        by_cases hlt : i < m1
        · have hi1 : (i : Int) < (m1 : Int) := by omega
          have hi2 : (i : Int) < (m2 : Int) := by
            have h1 := HM1.out
            have h2 := HM2.out
            have h3 := (HT.out.2.1 rfl).1
            omega
          obtain ⟨G1, ap1, np1, cp1, r1, rfl, hr1, hv1, hg1⟩ := HD1.out.rowAt (k := i) (by have := HM1.out; omega)
          obtain ⟨G2, ap2, np2, cp2, r2, rfl, hr2, hv2, hg2⟩ := HD2.out.rowAt (k := i) (by have := HM2.out; omega)
          have HR := Lib.hid (And.intro hr1 hr2)
          have HG := Lib.hid (And.intro hg1 hg2)
          have HCALL : Hid (∀ W : World, Below w3.heap.size w3 W → Calls Tryz.prog 19 #[.agg #[.string r1.name, .int .i64 r1.prio, .bool r1.inst, .slice ap1 np1 cp1], .agg #[.string r2.name, .int .i64 r2.prio, .bool r2.inst, .slice ap2 np2 cp2]] W fun e w' => IsB (r1 = r2) e ∧ Below W.heap.size W w') := Lib.hid fun W hW => sameRepo_b r1 r2 ap1 np1 cp1 ap2 np2 cp2 _ _ W (hv1.keep (fun _ h => h) (fun b _ hl => hW.block b hl)) (hv2.keep (fun _ h => h) (fun b _ hl => hW.block b hl))
          clear hr1 hr2 hg1 hg2 hv1 hv2
          go_upto_region 10 with fail
          clear q1 q2
          refine wp_region_ord (fun W => Below w3.heap.size w3 W) 15 [(true, 0), (true, 1), (true, 2), (true, 3), (true, 4), (true, 5), (true, 6), (true, 7), (true, 8), (true, 9), (true, 10), (true, 11), (true, 12), (true, 13), (false, 14), (false, 15)] (by kernel_rfl) (by kernel_rfl) (fun _ _ d _ _ h => by cases d <;> exact h) (below_dr1 HT.out.1) ?_
          intro wd2 hwd hS
          simp only [ordOps, List.map_cons, List.map_nil, Array.getD_eq_getD_getElem?, List.getElem?_toArray, List.getElem?_cons_succ, List.getElem?_cons_zero, Option.getD_some]
          iterate 14 (refine wpOrd_q rfl _ (fun w' hS' K hK => (by obtain ⟨q1, q2⟩ := HQ.out w' hS'; obtain ⟨t0, t1, t2, t3⟩ := HG.out.1 w' hS'; obtain ⟨s0, s1, s2, s3⟩ := HG.out.2 w' hS'; clear hS'; go_simp; exact hK)) (fun K hK => ?_); go_simp; refine hK _ ?_; clear hK K)
          have HBd2 : Hid (Below w3.heap.size w3 wd2) := Lib.hid hS
          refine wpOrd_l rfl (fun K hK => ?_)
          go_simp
          refine (HCALL.out wd2 HBd2.out).mono ?_
          rintro e w4 ⟨⟨bq, rfl, hbq⟩, hb4⟩
          have HB4 : Hid (Below w3.heap.size w3 w4) := Lib.hid (below_tr HBd2.out hb4)
          have HN : Hid (RelA u1 u2 (i + 1) bq) := Lib.hid (HT.out.2.next HR.out.1 HR.out.2 hbq)
          clear hbq hb4
          go_simp
          refine hK _ _ ⟨fun _ => HB4.out, ?_⟩
          clear hK K
          refine wpOrd_l rfl (fun K hK => ?_)
          go_simp
          refine hK _ _ ⟨fun h => absurd rfl h, ?_⟩
          clear hK K
          refine wpOrd_nil ?_
          clear hS hwd
          go_wp2_with fail
          go_roundw
          case rel => exact ⟨bq, i + 1, rfl, by go_num, by omega, HB4.out, HN.out⟩
          case measure => simp [intOf]; omega
        · have hi1 : ¬ (i : Int) < (m1 : Int) := by omega
          have HZ : Hid (u1 = u2) := Lib.hid (HT.out.2.full (by have := HM1.out; omega))
          go_wp2_with fail
          refine (HSM.out wr HT.out.1).mono ?_
          rintro e w6 ⟨⟨b6, rfl, hb6⟩, hb7⟩
          have hz : b6 = true := hb6.2 HZ.out
          subst hz
          have HB6 : Hid (Below w.heap.size w w6) := Lib.hid (below_tr (below_tr HB3.out HT.out.1) hb7)
          clear hb6 hb7
          go_wp2_with fail
          go_ret
          exact ⟨rfl, HB6.out⟩
end Go.Proofs.YtbdankpkdhhlmaaGreat
