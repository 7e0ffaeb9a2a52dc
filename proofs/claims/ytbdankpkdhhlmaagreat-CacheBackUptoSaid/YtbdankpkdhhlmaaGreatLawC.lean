/-
  The walk of the law CacheBack. Helper text; the conditions are those typed.
-/
import Derived.Test.YtbdankpkdhhlmaaGreatLawsA
namespace Go.Proofs.YtbdankpkdhhlmaaGreat
set_option linter.unusedVariables false
set_option linter.unusedSimpArgs false
open Go.RowKit Go.Maps

theorem ReposV.below {w w' : World} {l : List RepoT} {v : Value} (h : ReposV w (· < w.heap.size) l v) (hb : Below w.heap.size w w') : ReposV w' (· < w'.heap.size) l v := by
  obtain ⟨a, c, e, hn, h⟩ := h
  refine ⟨a, c, e, hn, fun hl => ?_⟩
  obtain ⟨b, off, ea, hS, hr⟩ := h hl
  refine ⟨b, off, ea, Nat.lt_of_lt_of_le hS hb.size, fun i hi => ?_⟩
  obtain ⟨ap, np, cp, hp, hc⟩ := hr i hi
  exact ⟨ap, np, cp, hp.keep (fun b hb2 => Nat.lt_of_lt_of_le hb2 hb.size) (fun b hb2 _ => hb.block b hb2), hc.keep (hb.block b hS)⟩
theorem kindN (kd : Int) : ∃ k : Nat, kindP kd = (k : Int) ∧ (k = 1 ∨ k = 2) := by
  rcases kindP_ok kd with h | h
  · exact ⟨1, h, .inl rfl⟩
  · exact ⟨2, h, .inr rfl⟩
/-- Another pool that has the same. -/
theorem Both.other {w w' : World} {B : Nat} {role role7 : Nat → Role} {P M Q P7 M7 : Nat} {kd : Int} {rl : List RepoT} {rs : List RepoH} {ks : List KeptT} {ats : List (Nat × Nat)} {vr va : Value} {lv : ByteArray → Value} (h : Both w B role P M Q kd rl rs ks ats) (hB : B ≤ w.heap.size) (hb : Below w.heap.size w w') (hp : PoolIn w' w.heap.size role7 P7 M7 vr va lv kd rs ks (ks.map fun k => k.pkg.name)) : Both w' B role7 P7 M7 Q kd rl rs ks ats := by
  obtain ⟨mr, ma, h2, h3⟩ := h.doc
  refine ⟨⟨vr, va, lv, hp.base hB⟩, ⟨mr, ma, h2.below hb, fun b hmb => ?_⟩, h.built, h.rlen, h.klen⟩
  by_cases e : role7 b = .free
  · exact e
  · have h4 := hp.lo b e
    have h5 := (h2.lt hmb).2
    omega
set_option maxHeartbeats 2000000 in
set_option maxRecDepth 100000 in
theorem cacheBack_walk (w : World) (kd : Int) (l : List RepoT) (a : Option Addr) (n c : Nat) (hl : ReposV w (· < w.heap.size) l (.slice a n c)) (hc : CanL (poolsOf l).rl) :
    Calls Tryz.prog 9 #[.int .i64 kd, .slice a n c] w fun e w' => e = .returned (.bool true) ∧ Below w.heap.size w w' := by
  have HL := Lib.hid hl
  have HC := Lib.hid hc
  clear hl hc
  go_enter Tryz.func9, Tryz.ntmps9
  go_wp2_with fail
  refine (awake_c w).mono ?_
  rintro e w1 ⟨rfl, hb1⟩
  replace hb1 := Lib.hid hb1
  have hP := Lib.hid (pools_c kd l a n c w1 (HL.out.below hb1.out))
  go_wp2_with fail
  refine hP.out.mono ?_
  rintro e w2 ⟨B, role, P, M, Q, rfl, hBw, hb2, hboth⟩
  have HB2 : Hid (Below w.heap.size w w2) := Lib.hid (below_tr hb1.out hb2)
  obtain ⟨k, hk, hk2⟩ := kindN kd
  rw [hk] at hboth
  have HK2 := Lib.hid hk2
  have HOK := Lib.hid (poolsOf_ok l)
  obtain ⟨st, hst⟩ : ∃ st, poolsOf l = st := ⟨_, rfl⟩
  rw [hst] at HC HOK hboth
  have HBO := Lib.hid hboth
  have HBW : Hid (B ≤ w2.heap.size) := Lib.hid <| by
    obtain ⟨vr, va, lv, hpool⟩ := hboth.pool
    have h1 := hpool.lo P (by rw [hpool.rP]; simp)
    have h2 := hpool.hi P (by rw [hpool.rP]; simp)
    omega
  obtain ⟨vr, va, lv, hpool⟩ := hboth.pool
  have hW := Lib.hid (write_c hpool (HOK.out.canW HC.out (by have := HK2.out; omega)))
  clear hP hb2 hk hk2 hst hboth hpool hBw
  go_wp2_with fail
  refine hW.out.mono ?_
  rintro e w3 ⟨v3, rfl, hv3⟩
  have hb3 := hv3.2
  rw [show (k : Int).toNat = k from rfl] at hv3
  obtain ⟨a3, c3, rfl, hby3, hc3, _⟩ := hv3.slice2
  have HB3 : Hid (Below w2.heap.size w2 w3) := Lib.hid hb3
  obtain ⟨m, hm⟩ : ∃ m, (encB k (tokPool st.rs st.ks)).length = m := ⟨_, rfl⟩
  have hR := Lib.hid (read_same HOK.out HC.out HK2.out w3 a3 c3 hby3 (hby3.blk (encB_ne _ _)) hc3 hm)
  rw [hm]
  clear hv3 hb3 hby3 hc3 hm hW
  go_wp2_with fail
  refine hR.out.mono ?_
  rintro e w4 ⟨⟨role4, P4, M4, vr4, va4, lv4, rfl, hp4⟩, hb4⟩
  have HB4 : Hid (Below w.heap.size w w4) := Lib.hid (below_tr (below_tr HB2.out HB3.out) hb4)
  have HBO4 : Hid (Both w4 B role P M Q (k : Int) st.rl st.rs st.ks st.ats) := Lib.hid ((HBO.out.below HB3.out).below hb4)
  have hA1 := Lib.hid (alike_c ((HBO.out.below HB3.out).other (Nat.le_trans HBW.out HB3.out.size) hb4 hp4))
  clear hR hp4 hb4
  go_wp2_with fail
  refine hA1.out.mono ?_
  rintro e w5 ⟨rfl, hb5⟩
  have HB5 : Hid (Below w.heap.size w w5) := Lib.hid (below_tr HB4.out hb5)
  have hA2 := Lib.hid (alike_c (HBO4.out.below hb5))
  clear hA1 hb5
  go_wp2_with fail
  refine hA2.out.mono ?_
  rintro e w6 ⟨rfl, hb6⟩
  have HB6 : Hid (Below w.heap.size w w6) := Lib.hid (below_tr HB5.out hb6)
  clear hA2 hb6
  go_wp2_with fail
  go_ret
  exact ⟨rfl, HB6.out⟩
end Go.Proofs.YtbdankpkdhhlmaaGreat
