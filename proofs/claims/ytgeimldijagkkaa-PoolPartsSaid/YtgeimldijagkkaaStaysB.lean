/-
  The walk of PoolStays. Helper text; the conditions are those typed.
-/
import Derived.Test.YtgeimldijagkkaaStaysA
import Derived.Test.YtgeimldijagkkaaPartsA
import Derived.Test.YtgeimldijagkkaaLawsA
import Derived.Deep.Cut
import Derived.IntWalk
namespace Go.Proofs.Ytgeimldijagkkaa
set_option linter.unusedVariables false
set_option linter.unusedSimpArgs false
open Go.RowKit Go.Maps

theorem repos_at {w : World} {S : Nat → Prop} {l : List RepoT} {a : Option Addr} {n c : Nat} (h : ReposV w S l (.slice a n c)) : n = l.length ∧ (n ≠ 0 → ∃ b off, a = some ⟨b, off, none⟩ ∧ S b ∧ ∀ i (h : i < l.length), ∃ ap np cp, PkgsV w S l[i].pkgs (.slice ap np cp) ∧ CellsAt w b (off + i * 4) [.string l[i].name, .int .i64 l[i].prio, .bool l[i].inst, .slice ap np cp]) := by
  obtain ⟨a2, c2, e, hn, hi⟩ := h
  injection e with h1 h2 h3
  subst h1 h2 h3
  exact ⟨rfl, fun h0 => hi (fun e => h0 (by rw [e]; rfl))⟩

theorem info9 : (Try.prog.info? 9).map (fun i => (i.zero, i.size, i.bytes)) = some (some (.string ⟨#[]⟩), 1, 16) := by kernel_rfl

/-- A walk's state: a world over the first one, a box, the pool. -/
structure St (w : World) (cs : List Value) (ty : TypeId) (P M : Nat) (kd : Int) (W : World) (role : Nat → Role) (rs : List RepoH) (ks : List KeptT) : Prop where
  blw : Below w.heap.size w W
  box : BoxN W w.heap.size cs ty
  free : role w.heap.size = .free
  pool : PoolAt W w.heap.size role P M kd rs ks
theorem St.below {w : World} {cs : List Value} {ty : TypeId} {P M : Nat} {kd : Int} {W W' : World} {role : Nat → Role} {rs : List RepoH} {ks : List KeptT} (h : St w cs ty P M kd W role rs ks) (hb : Below W.heap.size W W') : St w cs ty P M kd W' role rs ks :=
  ⟨below_tr h.blw hb, h.box.below hb, h.free, h.pool.below hb⟩
theorem St.moved {w : World} {cs : List Value} {ty : TypeId} {P M : Nat} {kd : Int} {W W' : World} {role role' : Nat → Role} {rs rs' : List RepoH} {ks ks' : List KeptT} (h : St w cs ty P M kd W role rs ks) (hm : Moved role W role' W') (hp : PoolAt W' w.heap.size role' P M kd rs' ks') : St w cs ty P M kd W' role' rs' ks' := by
  have hb := hm.block w.heap.size h.box.lt h.free
  refine ⟨⟨hm.os.trans h.blw.os, hm.tape.trans h.blw.tape, hm.output.trans h.blw.output, Nat.le_trans h.blw.size hm.size, fun b hb => ?_⟩, h.box.to hb.1, hb.2, hp⟩
  exact (hm.block b (Nat.lt_of_lt_of_le hb h.blw.size) (h.pool.free (.inr hb))).1.trans (h.blw.block b hb)
theorem St.old {w : World} {cs : List Value} {ty : TypeId} {P M : Nat} {kd : Int} {W : World} {role : Nat → Role} {rs : List RepoH} {ks : List KeptT} (h : St w cs ty P M kd W role rs ks) : ∀ b, b < w.heap.size → role b = .free ∧ b < W.heap.size :=
  fun b hb => ⟨h.pool.free (.inr hb), Nat.lt_of_lt_of_le hb h.blw.size⟩

theorem len_at {W : World} {B : Nat} {role : Nat → Role} {P M : Nat} {kd : Int} {rs : List RepoH} {ks : List KeptT} (h : PoolAt W B role P M kd rs ks) : Calls Try.prog 15 #[.pointer (some ⟨P, 0, none⟩)] W fun e w' => e = .returned (.int .i64 (ks.length : Int)) ∧ W = w' := by
  obtain ⟨⟨vr, va, lv, h1⟩, h2⟩ := h
  exact len_c h1
theorem package_at {W : World} {B : Nat} {role : Nat → Role} {P M : Nat} {kd : Int} {rs : List RepoH} {ks : List KeptT} (h : PoolAt W B role P M kd rs ks) {i : Nat} (hi : i < ks.length) {pk : PkgT} (hpk : ks[i].pkg = pk) {at_ : Nat} (hat : ks[i].at_ = at_) :
    Calls Try.prog 16 #[.pointer (some ⟨P, 0, none⟩), .int .i64 (i : Int)] W fun e w' => (∃ (a' : Fin 7 → Option Addr) (c' : Fin 7 → Nat) (af' : Option Addr) (nf cf' : Nat), e = .returned (.tuple #[.agg #[.string pk.name, .string pk.evr, .string pk.arch, .string pk.vendor, .slice (a' 0) (pk.n 0) (c' 0), .slice (a' 1) (pk.n 1) (c' 1), .slice (a' 2) (pk.n 2) (c' 2), .slice (a' 3) (pk.n 3) (c' 3), .slice (a' 4) (pk.n 4) (c' 4), .slice (a' 5) (pk.n 5) (c' 5), .slice (a' 6) (pk.n 6) (c' 6), .slice af' nf cf'], .int .i64 (at_ : Int), .int .i64 0]) ∧ PkgV w' (fun b => W.heap.size ≤ b) pk (fun i => .slice (a' i) (pk.n i) (c' i)) (.slice af' nf cf')) ∧ Below W.heap.size W w' := by
  obtain ⟨⟨vr, va, lv, h1⟩, h2⟩ := h
  exact package_c h1 h2.2.1 hi hpk hat
/-- A package's text. -/
def ktext (k : KeptT) : ByteArray := textB k.pkg.name k.pkg.evr k.pkg.arch
theorem PoolOK.fits {rs : List RepoH} {ks : List KeptT} (h : PoolOK rs ks) {i : Nat} (hi : i < ks.length) {pk : PkgT} (hpk : ks[i].pkg = pk) : pk.name.size + pk.evr.size + pk.arch.size + 2 ≤ 9223372036854775807 := by
  obtain ⟨_, ⟨h1, h2, h3⟩, _⟩ := h.2.2 ks[i] (List.getElem_mem hi)
  rw [hpk] at h1 h2 h3
  have : reachBytes = 140737488351232 := rfl
  omega

set_option maxHeartbeats 8000000 in
set_option maxRecDepth 100000 in
theorem poolStays_walk (HA : Hid AwakeC) (l : List RepoT) (al : Option Addr) (nl cl : Nat) (more : RepoT) (ap : Option Addr) (np cp : Nat) (w : World) (hl : ReposV w (· < w.heap.size) l (.slice al nl cl)) (hf : ∀ r ∈ l, ∀ p ∈ r.pkgs, Fits p)
    (hm : PkgsV w (· < w.heap.size) more.pkgs (.slice ap np cp)) (hfm : ∀ p ∈ more.pkgs, Fits p) (hnl : nl ≤ 9223372036854775807) :
    Calls Try.prog 5 #[.slice al nl cl, .agg #[.string more.name, .int .i64 more.prio, .bool more.inst, .slice ap np cp]] w fun e w' => e = .returned (.bool true) ∧ Below w.heap.size w w' := by
  obtain ⟨hln, hli⟩ := repos_at hl
  have HLN := Lib.hid hln
  have HLI := Lib.hid hli
  have HF := Lib.hid hf
  have HMP := Lib.hid hm
  have HFM := Lib.hid hfm
  clear hln hli hf hm hfm hl
  obtain ⟨w1, e1⟩ : ∃ w1, w.alloc (.cells #[.string more.name, .int .i64 more.prio, .bool more.inst, .slice ap np cp] 34) = w1 := ⟨_, rfl⟩
  have HB1 : Hid (Below w.heap.size w w1 ∧ BoxN w1 w.heap.size [.string more.name, .int .i64 more.prio, .bool more.inst, .slice ap np cp] 34) := by
    rw [← e1]
    exact ⟨below1 _ _, boxN_alloc _ _ _⟩
  go_enter Try.func5, Try.ntmps5
  go_wp2_with fail
  refine (HA.out w1).mono ?_
  rintro e w2 ⟨rfl, hb2⟩
  have HB2 : Hid (Below w.heap.size w w2 ∧ BoxN w2 w.heap.size [.string more.name, .int .i64 more.prio, .bool more.inst, .slice ap np cp] 34) := ⟨below_tr HB1.out.1 hb2, HB1.out.2.below hb2⟩
  clear hb2 e1 HB1
  have HN := Lib.hid (new_c 2 (.inr rfl) w.heap.size w2 HB2.out.1.size)
  go_wp2_with fail
  refine HN.out.mono ?_
  rintro e w3 ⟨rfl, hb3, hp3⟩
  obtain ⟨P, eP⟩ : ∃ P, w2.heap.size + 1 = P := ⟨_, rfl⟩
  obtain ⟨M, eM⟩ : ∃ M, w2.heap.size = M := ⟨_, rfl⟩
  have HS3 : Hid (∃ role, St w [.string more.name, .int .i64 more.prio, .bool more.inst, .slice ap np cp] 34 P M 2 w3 role [] []) := by
    have h2 := HB2.out.2.lt
    refine ⟨_, below_tr HB2.out.1 hb3, HB2.out.2.below hb3, ?_, ⟨_, _, _, by rw [← eP, ← eM]; exact hp3⟩, PoolOK.nil⟩
    show (if w.heap.size = w2.heap.size then Role.map else _) = _
    rw [if_neg (by omega)]
    show (if w.heap.size = w2.heap.size + 1 then Role.pool else _) = _
    rw [if_neg (by omega)]
  rw [eP]
  clear hb3 hp3 HN HB2 eP eM
  clear w2
  go_wp2_with fail
  go_loopw [8] (fun vi wr => ∃ i : Nat, vi = .int .i64 i ∧ i ≤ nl ∧ Hid (∃ role rs ks, St w [.string more.name, .int .i64 more.prio, .bool more.inst, .slice ap np cp] 34 P M 2 wr role rs ks)) (fun vi _ => nl - (intOf vi).toNat)
  case atStart =>
    obtain ⟨role, h⟩ := HS3.out
    exact ⟨0, rfl, Nat.zero_le _, role, _, _, h⟩
  case round =>
    obtain ⟨i, rfl, hin, HT0⟩ := hrel
    obtain ⟨role, rs, ks, hT⟩ := HT0.out
    have HT := Lib.hid hT
    clear HT0 hT HS3
    by_cases hlt : i < nl
    · have hi1 : (i : Int) < (nl : Int) := by omega
      have hlen : i < l.length := by have := HLN.out; omega
      obtain ⟨b, off, rfl, hSb, hi⟩ := HLI.out (by omega)
      obtain ⟨aq, nq, cq, hpk, hcells⟩ := hi i hlen
      have hfr := HF.out l[i] (List.getElem_mem hlen)
      clear hi
      generalize l[i] = r at hpk hcells hfr
      have hcw : CellsAt wr b (off + i * 4) _ := hcells.keep (HT.out.blw.block b hSb)
      have q0 : wr.cell? ⟨b, off + i * 4, none⟩ = some _ := hcw 0 _ rfl
      have q1 : wr.cell? ⟨b, off + i * 4 + 1, none⟩ = some _ := hcw 1 _ rfl
      have q2 : wr.cell? ⟨b, off + i * 4 + 2, none⟩ = some _ := hcw 2 _ rfl
      have q3 : wr.cell? ⟨b, off + i * 4 + 3, none⟩ = some _ := hcw 3 _ rfl
      have HAD : Hid (Calls Try.prog 14 #[.pointer (some ⟨P, 0, none⟩), .agg #[.string r.name, .int .i64 r.prio, .bool r.inst, .slice aq nq cq]] wr fun e w' => (∃ q : Int, e = .returned (.int .i64 q)) ∧ ∃ role' rs' ks', St w [.string more.name, .int .i64 more.prio, .bool more.inst, .slice ap np cp] 34 P M 2 w' role' rs' ks') := by
        refine (add_at HT.out.pool HT.out.blw.size r aq nq cq (· < w.heap.size) (hpk.below HT.out.blw) HT.out.old hfr).mono ?_
        rintro e w' ⟨he, role', hm', hp'⟩
        exact ⟨⟨_, he⟩, role', _, _, HT.out.moved hm' hp'⟩
      clear hpk hcells hcw hfr
      go_wp2_with fail
      refine HAD.out.mono ?_
      rintro e w4 ⟨⟨q, rfl⟩, HT4⟩
      replace HT4 := Lib.hid HT4
      clear q0 q1 q2 q3 HAD HT
      go_wp2_with fail
      go_roundw
      case rel => exact ⟨i + 1, by go_num, by omega, HT4.out⟩
      case measure => simp [intOf]; omega
    · have hi1 : ¬ (i : Int) < (nl : Int) := by omega
      clear HLI HLN HF hlt
      go_wp2_with fail
      -- the texts
      obtain ⟨n, hn⟩ : ∃ n, ks.length = n := ⟨_, rfl⟩
      have HKN := Lib.hid hn
      have hn200 : n ≤ 200 := by rw [← hn]; exact HT.out.pool.2.2.1
      clear hn
      have HLEN : Hid (∀ W, Below wr.heap.size wr W → Calls Try.prog 15 #[.pointer (some ⟨P, 0, none⟩)] W fun e w' => e = .returned (.int .i64 (n : Int)) ∧ W = w') := fun W hb => by
        have := len_at (HT.out.pool.below hb)
        rwa [HKN.out] at this
      obtain ⟨wL, rfl⟩ : ∃ wL : World, wL = wr := ⟨_, rfl⟩
      obtain ⟨i0, hi9, hz90, hz91, hz92⟩ := info_parts info9
      go_loopw [9, 10] (fun vw vi wx => ∃ k : Nat, vi = .int .i64 k ∧ k ≤ n ∧ Hid (Below wL.heap.size wL wx ∧ wx.ownsRow wL.heap.size 9 1 vw k ((ks.take k).map fun x => .string (ktext x)))) (fun _ vi _ => n - (intOf vi).toNat)
      case atStart => exact ⟨0, rfl, Nat.zero_le _, Below.refl _ _, World.ownsRow_nil _ _ _ _⟩
      case round =>
        obtain ⟨k, rfl, hkn, HW⟩ := hrel
        go_wp2_with fail
        refine (HLEN.out wr HW.out.1).mono ?_
        rintro e wy ⟨rfl, rfl⟩
        by_cases hlt2 : k < n
        · have hi2 : (k : Int) < (n : Int) := by omega
          have hlen : k < ks.length := by have := HKN.out; omega
          obtain ⟨pk, hpk⟩ : ∃ pk, ks[k].pkg = pk := ⟨_, rfl⟩
          obtain ⟨at_, hat⟩ : ∃ at_, ks[k].at_ = at_ := ⟨_, rfl⟩
          have HPK := Lib.hid (package_at (HT.out.pool.below HW.out.1) hlen hpk hat)
          have HFIT := Lib.hid (HT.out.pool.2.fits hlen hpk)
          have HNX : Hid ((ks.take (k + 1)).map (fun x => Value.string (ktext x)) = (ks.take k).map (fun x => Value.string (ktext x)) ++ [.string (textB pk.name pk.evr pk.arch)]) := by
            rw [List.take_add_one, List.getElem?_eq_getElem hlen, Option.toList_some, List.map_append, ← hpk]
            rfl
          clear hpk hat hlen
          go_wp2_with fail
          refine HPK.out.mono ?_
          rintro e wz ⟨⟨a', c', af', nf, cf', rfl, hv⟩, hbz⟩
          have HBZ : Hid (Below wr.heap.size wr wz) := hbz
          clear hv hbz HPK
          obtain ⟨w8, e8⟩ : ∃ w8, wz.alloc (.cells #[.string pk.name, .string pk.evr, .string pk.arch, .string pk.vendor, .slice (a' 0) (pk.n 0) (c' 0), .slice (a' 1) (pk.n 1) (c' 1), .slice (a' 2) (pk.n 2) (c' 2), .slice (a' 3) (pk.n 3) (c' 3), .slice (a' 4) (pk.n 4) (c' 4), .slice (a' 5) (pk.n 5) (c' 5), .slice (a' 6) (pk.n 6) (c' 6), .slice af' nf cf'] 26) = w8 := ⟨_, rfl⟩
          have HB8 : Hid (Below wz.heap.size wz w8 ∧ BoxN w8 wz.heap.size [.string pk.name, .string pk.evr, .string pk.arch, .string pk.vendor, .slice (a' 0) (pk.n 0) (c' 0), .slice (a' 1) (pk.n 1) (c' 1), .slice (a' 2) (pk.n 2) (c' 2), .slice (a' 3) (pk.n 3) (c' 3), .slice (a' 4) (pk.n 4) (c' 4), .slice (a' 5) (pk.n 5) (c' 5), .slice (a' 6) (pk.n 6) (c' 6), .slice af' nf cf'] 26) := by
            rw [← e8]
            exact ⟨below1 _ _, boxN_alloc _ _ _⟩
          have z0 := HB8.out.2.cell (j := 0) rfl
          have z1 := HB8.out.2.cell (j := 1) rfl
          have z2 := HB8.out.2.cell (j := 2) rfl
          have z3 := HB8.out.2.cell (j := 3) rfl
          have z4 := HB8.out.2.cell (j := 4) rfl
          have z5 := HB8.out.2.cell (j := 5) rfl
          have z6 := HB8.out.2.cell (j := 6) rfl
          have z7 := HB8.out.2.cell (j := 7) rfl
          have z8 := HB8.out.2.cell (j := 8) rfl
          have z9 := HB8.out.2.cell (j := 9) rfl
          have z10 := HB8.out.2.cell (j := 10) rfl
          have z11 := HB8.out.2.cell (j := 11) rfl
          have HTX := Lib.hid (text_c pk a' c' af' nf cf' w8 HFIT.out)
          generalize textB pk.name pk.evr pk.arch = t at HTX HNX
          go_wp2_with fail
          refine HTX.out.mono ?_
          rintro e w9 ⟨rfl, hb9⟩
          have HB9 : Hid (Below wr.heap.size wr w9) := below_tr HBZ.out (below_tr HB8.out.1 hb9)
          clear hb9 e8 z0 z1 z2 z3 z4 z5 z6 z7 z8 z9 z10 z11 HTX HB8 HBZ
          have hown9 := Lib.hid (ownsRow_below HW.out.2 (below_tr HB9.out (below1 w9 (.cells #[.string t] 9))))
          go_wp2_with (at_builtin; refine wpList_append_own _ rfl (.tmp 60) (.tmp 63) 24 rfl wL.heap.size 9 i0 (.string ⟨#[]⟩) 1 16 Try.underlying24 hi9 hz90 hz91 hz92 rfl (by decide) u9 k _ rfl hown9.out ⟨w9.heap.size, 0, none⟩ 1 1 [.string t] rfl rfl (World.news_of_block (cs := #[.string t]) (t := 9) (fr := (0, 0)) (heap_alloc_new w9 _)) (by intro u hu; simp at hu; subst hu; rfl) (by unfold maxLen; omega) (by omega) (by have h1 := HW.out.1.size; have h2 := HB9.out.size; simp; omega) ?_; intro v' w10 hown10 hgrow10 _)
          have HW10 : Hid (Below wL.heap.size wL w10 ∧ w10.ownsRow wL.heap.size 9 1 v' (k + 1) ((ks.take (k + 1)).map fun x => .string (ktext x))) := by
            rw [HNX.out]
            have h1 := HW.out.1.size
            have h2 := HB9.out.size
            refine ⟨(below_tr HW.out.1 (below_tr HB9.out (below1 w9 (.cells #[.string t] 9)))).trans (grown_own hown9.out (by simp; omega) hgrow10), hown10⟩
          clear hown10 hgrow10 hown9 HNX HB9
          go_wp2_with fail
          go_roundw
          case rel => exact ⟨k + 1, by go_num, by omega, HW10.out⟩
          case measure => simp [intOf]; omega
        · have hi2 : ¬ (k : Int) < (n : Int) := by omega
          have hke : k = n := by omega
          subst hke
          have HW2 : Hid (Below wL.heap.size wL wr ∧ wr.ownsRow wL.heap.size 9 1 u9 k (ks.map fun x => .string (ktext x))) := by
            have := HW.out
            rwa [List.take_of_length_le (by rw [HKN.out]; exact Nat.le_refl _)] at this
          obtain ⟨aw, cw, rfl⟩ : ∃ aw cw, u9 = .slice aw k cw := by
            rcases ownsRow_form HW2.out.2 with ⟨e, h0⟩ | ⟨g, c, e, _⟩
            · exact ⟨none, 0, by rw [e, h0]⟩
            · exact ⟨_, c, e⟩
          clear HW hlt2 hkn
          go_wp2_with fail
          refine (HLEN.out wr HW2.out.1).mono ?_
          rintro e wy ⟨rfl, rfl⟩
          have HTX2 := Lib.hid (HT.out.below HW2.out.1)
          have p0 := HTX2.out.box.cell (j := 0) rfl
          have p1 := HTX2.out.box.cell (j := 1) rfl
          have p2 := HTX2.out.box.cell (j := 2) rfl
          have p3 := HTX2.out.box.cell (j := 3) rfl
          have hnp := Lib.hid (pkgs_at HMP.out)
          obtain ⟨Q, hQ⟩ : ∃ Q, addErr rs ks more = Q := ⟨_, rfl⟩
          have HAD2 : Hid (Calls Try.prog 14 #[.pointer (some ⟨P, 0, none⟩), .agg #[.string more.name, .int .i64 more.prio, .bool more.inst, .slice ap np cp]] wr fun e w' => e = .returned (.int .i64 Q) ∧ ∃ role' rs' ks', St w [.string more.name, .int .i64 more.prio, .bool more.inst, .slice ap np cp] 34 P M 2 w' role' rs' ks' ∧ (∃ mo, ks' = ks ++ mo ∧ (Q ≠ 0 → mo = []) ∧ (Q = 0 → mo.length = np)) ∧ w'.ownsRow wL.heap.size 9 1 (.slice aw k cw) k (ks.map fun x => .string (ktext x))) := by
            refine (add_at HTX2.out.pool HTX2.out.blw.size more ap np cp (· < w.heap.size) (HMP.out.below HTX2.out.blw) HTX2.out.old HFM.out).mono ?_
            rintro e w' ⟨he, role', hm', hp'⟩
            refine ⟨by rw [he, hQ], role', _, _, HTX2.out.moved hm' hp', ?_, ?_⟩
            · obtain ⟨mo, h1, h2, h3⟩ := addK_old (rs := rs) (ks := ks) (r := more)
              exact ⟨mo, h1, fun h => h2 (by rw [hQ]; exact h), fun h => by rw [h3 (by rw [hQ]; exact h), hnp.out.1]⟩
            · refine ownsRow_to HW2.out.2 fun g hg => ?_
              have h1 := HW2.out.2.lt g hg
              exact (hm'.block g h1.2 (HT.out.pool.free (.inl h1.1))).1
          clear hQ
          go_wp2_with fail
          refine HAD2.out.mono ?_
          rintro e w5 ⟨rfl, role', rs', ks', hT5, hmo, hown5⟩
          have HT5 := Lib.hid hT5
          have HOW := Lib.hid hown5
          obtain ⟨mo, hks, hmo1, hmo2⟩ := hmo
          have HKS := Lib.hid hks
          clear p0 p1 p2 p3 HAD2 hT5 hown5 hks HTX2 HLEN
          have p3 := HT5.out.box.cell (j := 3) rfl
          have hnpb : np * 256 ≤ 140737488355328 := hnp.out.2.1
          have HML : Hid ((Q ≠ 0 → ks'.length = k) ∧ (Q = 0 → ks'.length = k + np)) := by
            refine ⟨fun h => ?_, fun h => ?_⟩
            · rw [HKS.out, hmo1 h, List.append_nil, HKN.out]
            · rw [HKS.out, List.length_append, hmo2 h, HKN.out]
          clear hmo1 hmo2
          have HLM : Hid (∀ W : World, W.heap = w5.heap → Calls Try.prog 15 #[.pointer (some ⟨P, 0, none⟩)] W fun e w' => e = .returned (.int .i64 (ks'.length : Int)) ∧ W = w') := fun W hW => by
            have h1 : PoolAt W w.heap.size role' P M 2 rs' ks' := HT5.out.pool.keep (by rw [hW]; exact Nat.le_refl _) (fun b _ => by rw [hW])
            exact len_at h1
          go_upto_region 17 with fail
          go_cut [91] from 70 to 91 (fun t91 wm => t91 = .bool false ∧ Hid (Below w5.heap.size w5 wm))
          case first =>
            by_cases hq : Q = 0
            · subst hq
              rw [HML.out.2 rfl] at HLM
              have hs1 : ((k + np : Nat) : Int) = (k : Int) + (np : Int) := by omega
              rw [hs1] at HLM
              have hs2 : IntKind.i64.wrap ((k : Int) + (np : Int)) = (k : Int) + (np : Int) := IntWalk.i64_in _ (by omega)
              clear hs1
              go_quiet ((go_at_call 15; exact Calls.quiet_of_same ((HLM.out _ (by rfl)).mono fun _ _ h => ⟨h.1, h.2.symm⟩)))
              go_wp2_with fail
              go_meet
              exact ⟨rfl, below_dr (Below.refl _ _) nq⟩
            · have hq1 : (Q != 0) = true := by simpa using hq
              have hq2 : (Q == 0) = false := by simpa using hq
              rw [HML.out.1 hq] at HLM
              replace hq := Lib.hid hq
              go_quiet ((go_at_call 15; exact Calls.quiet_of_same ((HLM.out _ (by rfl)).mono fun _ _ h => ⟨h.1, h.2.symm⟩)))
              go_wp2_with fail
              go_meet
              exact ⟨rfl, below_dr (Below.refl _ _) nq⟩
          case rest =>
            obtain ⟨rfl, HBC⟩ := hcut
            have HTC := Lib.hid (HT5.out.below HBC.out)
            have HWC := Lib.hid (ownsRow_below HOW.out HBC.out)
            have hnpx : Hid True := trivial
            clear HML HLM p3 hnpb hnp HT5 HOW HFM HMP
            go_wp2_with fail
            go_loopw [16] (fun vi wr => ∃ j : Nat, vi = .int .i64 j ∧ j ≤ k ∧ Hid (Below wc.heap.size wc wr)) (fun vi _ => k - (intOf vi).toNat)
            case atStart => exact ⟨0, rfl, Nat.zero_le _, Below.refl _ _⟩
            case round =>
              obtain ⟨j, rfl, hjk, HBX⟩ := hrel
              by_cases hlt3 : j < k
              · have hi3 : (j : Int) < (k : Int) := by omega
                have hj0 : (0 : Int) ≤ (j : Int) := by omega
                have hlen0 : j < ks.length := by have := HKN.out; omega
                have hlen : j < ks'.length := by rw [HKS.out, List.length_append]; omega
                have hsame : ks'[j] = ks[j] := by
                  have h1 : ks'[j]? = ks[j]? := by rw [HKS.out, List.getElem?_append_left hlen0]
                  rw [List.getElem?_eq_getElem hlen, List.getElem?_eq_getElem hlen0] at h1
                  exact Option.some.inj h1
                obtain ⟨pk, hpk⟩ : ∃ pk, ks[j].pkg = pk := ⟨_, rfl⟩
                obtain ⟨at_, hat⟩ : ∃ at_, ks[j].at_ = at_ := ⟨_, rfl⟩
                have HPK := Lib.hid (package_at (HTC.out.pool.below HBX.out) hlen (pk := pk) (by rw [hsame, hpk]) (at_ := at_) (by rw [hsame, hat]))
                have HFIT := Lib.hid (HT.out.pool.2.fits hlen0 hpk)
                obtain ⟨g, rfl⟩ : ∃ g, aw = some ⟨g, 0, none⟩ := by
                  rcases ownsRow_form HWC.out with ⟨e, h0⟩ | ⟨g, c, e, _⟩
                  · omega
                  · cases e; exact ⟨g, rfl⟩
                have HCEL : Hid (wc.cell? ⟨g, j, none⟩ = some (.string (textB pk.name pk.evr pk.arch))) := by
                  have h1 := ownsRow_cell HWC.out (j := j) (v := .string (textB pk.name pk.evr pk.arch)) (by
                    rw [List.getElem?_map, List.getElem?_eq_getElem hlen0, ← hpk]
                    rfl)
                  exact h1
                clear hsame hlen hlen0 hpk hat
                go_wp2_with fail
                refine HPK.out.mono ?_
                rintro e wz ⟨⟨a', c', af', nf, cf', rfl, hv⟩, hbz⟩
                have HBZ : Hid (Below wr.heap.size wr wz) := hbz
                clear hv hbz HPK
                obtain ⟨w8, e8⟩ : ∃ w8, wz.alloc (.cells #[.string pk.name, .string pk.evr, .string pk.arch, .string pk.vendor, .slice (a' 0) (pk.n 0) (c' 0), .slice (a' 1) (pk.n 1) (c' 1), .slice (a' 2) (pk.n 2) (c' 2), .slice (a' 3) (pk.n 3) (c' 3), .slice (a' 4) (pk.n 4) (c' 4), .slice (a' 5) (pk.n 5) (c' 5), .slice (a' 6) (pk.n 6) (c' 6), .slice af' nf cf'] 26) = w8 := ⟨_, rfl⟩
                have HB8 : Hid (Below wz.heap.size wz w8 ∧ BoxN w8 wz.heap.size [.string pk.name, .string pk.evr, .string pk.arch, .string pk.vendor, .slice (a' 0) (pk.n 0) (c' 0), .slice (a' 1) (pk.n 1) (c' 1), .slice (a' 2) (pk.n 2) (c' 2), .slice (a' 3) (pk.n 3) (c' 3), .slice (a' 4) (pk.n 4) (c' 4), .slice (a' 5) (pk.n 5) (c' 5), .slice (a' 6) (pk.n 6) (c' 6), .slice af' nf cf'] 26) := by
                  rw [← e8]
                  exact ⟨below1 _ _, boxN_alloc _ _ _⟩
                have HTX : Hid (∀ W, Calls Try.prog 11 #[.agg #[.string pk.name, .string pk.evr, .string pk.arch, .string pk.vendor, .slice (a' 0) (pk.n 0) (c' 0), .slice (a' 1) (pk.n 1) (c' 1), .slice (a' 2) (pk.n 2) (c' 2), .slice (a' 3) (pk.n 3) (c' 3), .slice (a' 4) (pk.n 4) (c' 4), .slice (a' 5) (pk.n 5) (c' 5), .slice (a' 6) (pk.n 6) (c' 6), .slice af' nf cf']] W fun e w' => e = .returned (.string (textB pk.name pk.evr pk.arch)) ∧ Below W.heap.size W w') := fun W => text_c pk a' c' af' nf cf' W HFIT.out
                have HBW : Hid (Below wc.heap.size wc w8) := below_tr HBX.out (below_tr HBZ.out HB8.out.1)
                generalize textB pk.name pk.evr pk.arch = t at HTX HCEL
                have HSS : Hid (∀ W, Below w8.heap.size w8 W → (W.cell? ⟨wz.heap.size, 0, none⟩ = some (.string pk.name) ∧ W.cell? ⟨wz.heap.size, 1, none⟩ = some (.string pk.evr) ∧ W.cell? ⟨wz.heap.size, 2, none⟩ = some (.string pk.arch) ∧ W.cell? ⟨wz.heap.size, 3, none⟩ = some (.string pk.vendor) ∧ W.cell? ⟨wz.heap.size, 4, none⟩ = some (.slice (a' 0) (pk.n 0) (c' 0)) ∧ W.cell? ⟨wz.heap.size, 5, none⟩ = some (.slice (a' 1) (pk.n 1) (c' 1)) ∧ W.cell? ⟨wz.heap.size, 6, none⟩ = some (.slice (a' 2) (pk.n 2) (c' 2)) ∧ W.cell? ⟨wz.heap.size, 7, none⟩ = some (.slice (a' 3) (pk.n 3) (c' 3)) ∧ W.cell? ⟨wz.heap.size, 8, none⟩ = some (.slice (a' 4) (pk.n 4) (c' 4)) ∧ W.cell? ⟨wz.heap.size, 9, none⟩ = some (.slice (a' 5) (pk.n 5) (c' 5)) ∧ W.cell? ⟨wz.heap.size, 10, none⟩ = some (.slice (a' 6) (pk.n 6) (c' 6)) ∧ W.cell? ⟨wz.heap.size, 11, none⟩ = some (.slice af' nf cf')) ∧ W.cell? ⟨g, j, none⟩ = some (.string t)) := fun W hb => by
                  have h1 := HB8.out.2.below hb
                  exact ⟨⟨h1.cell (j := 0) rfl, h1.cell (j := 1) rfl, h1.cell (j := 2) rfl, h1.cell (j := 3) rfl, h1.cell (j := 4) rfl, h1.cell (j := 5) rfl, h1.cell (j := 6) rfl, h1.cell (j := 7) rfl, h1.cell (j := 8) rfl, h1.cell (j := 9) rfl, h1.cell (j := 10) rfl, h1.cell (j := 11) rfl⟩, cell_tr (below_tr HBW.out hb) HCEL.out⟩
                have z0 := (HSS.out w8 (Below.refl _ _)).1.1
                have z1 := (HSS.out w8 (Below.refl _ _)).1.2.1
                have z2 := (HSS.out w8 (Below.refl _ _)).1.2.2.1
                have z3 := (HSS.out w8 (Below.refl _ _)).1.2.2.2.1
                have z4 := (HSS.out w8 (Below.refl _ _)).1.2.2.2.2.1
                have z5 := (HSS.out w8 (Below.refl _ _)).1.2.2.2.2.2.1
                have z6 := (HSS.out w8 (Below.refl _ _)).1.2.2.2.2.2.2.1
                have z7 := (HSS.out w8 (Below.refl _ _)).1.2.2.2.2.2.2.2.1
                have z8 := (HSS.out w8 (Below.refl _ _)).1.2.2.2.2.2.2.2.2.1
                have z9 := (HSS.out w8 (Below.refl _ _)).1.2.2.2.2.2.2.2.2.2.1
                have z10 := (HSS.out w8 (Below.refl _ _)).1.2.2.2.2.2.2.2.2.2.2.1
                have z11 := (HSS.out w8 (Below.refl _ _)).1.2.2.2.2.2.2.2.2.2.2.2
                have pw := (HSS.out w8 (Below.refl _ _)).2
                have hbr0 : Below w8.heap.size w8 w8.drew := below_dr1 (Below.refl _ _)
                go_wp2_with fail
                go_region_held3 (fun W => (W.cell? ⟨wz.heap.size, 0, none⟩ = some (.string pk.name) ∧ W.cell? ⟨wz.heap.size, 1, none⟩ = some (.string pk.evr) ∧ W.cell? ⟨wz.heap.size, 2, none⟩ = some (.string pk.arch) ∧ W.cell? ⟨wz.heap.size, 3, none⟩ = some (.string pk.vendor) ∧ W.cell? ⟨wz.heap.size, 4, none⟩ = some (.slice (a' 0) (pk.n 0) (c' 0)) ∧ W.cell? ⟨wz.heap.size, 5, none⟩ = some (.slice (a' 1) (pk.n 1) (c' 1)) ∧ W.cell? ⟨wz.heap.size, 6, none⟩ = some (.slice (a' 2) (pk.n 2) (c' 2)) ∧ W.cell? ⟨wz.heap.size, 7, none⟩ = some (.slice (a' 3) (pk.n 3) (c' 3)) ∧ W.cell? ⟨wz.heap.size, 8, none⟩ = some (.slice (a' 4) (pk.n 4) (c' 4)) ∧ W.cell? ⟨wz.heap.size, 9, none⟩ = some (.slice (a' 5) (pk.n 5) (c' 5)) ∧ W.cell? ⟨wz.heap.size, 10, none⟩ = some (.slice (a' 6) (pk.n 6) (c' 6)) ∧ W.cell? ⟨wz.heap.size, 11, none⟩ = some (.slice af' nf cf')) ∧ W.cell? ⟨g, j, none⟩ = some (.string t))
                  (exact HSS.out _ (by assumption))
                  ((go_at_call 11; refine (HTX.out _).mono ?_; rintro e wa ⟨rfl, hba⟩; have hbb := below_tr (show Below w8.heap.size w8 _ by assumption) hba; clear hba))
                all_goals
                  have HBE : Hid (Below wc.heap.size wc _) := below_tr HBW.out (show Below w8.heap.size w8 _ by assumption)
                  clear z0 z1 z2 z3 z4 z5 z6 z7 z8 z9 z10 z11 pw e8
                  go_wp2_with fail
                  go_roundw
                  case rel => exact ⟨j + 1, by go_num, by omega, HBE.out⟩
                  case measure => simp [intOf]; omega
              · have hi3 : ¬ (j : Int) < (k : Int) := by omega
                go_wp2_with fail
                go_ret
                exact ⟨rfl, below_tr HTC.out.blw HBX.out⟩
end Go.Proofs.Ytgeimldijagkkaa
